/- The program's functions as plain Lean functions, and that the program comes to what they come to. Printed by a program of this session. -/
import Derived.Test.YtclmbdacfijifaaTy
namespace Go.Ab
open Go.Proofs
set_option linter.unusedVariables false
set_option linter.unusedSimpArgs false
set_option maxRecDepth 100000
noncomputable def disk_New (room : Int) : Option (Disk × Int) :=
  if (decide (room < 0)) then
    some (({ Files := [], Room := 0, Fuse := 0, Off := false } : Disk), 1)
  else
    some (({ Files := [], Room := room, Fuse := (-1), Off := false } : Disk), 0)
def gm_disk_New : Gm := ⟨tys, [], [], []⟩
theorem disk_New_walk (room : Int) (r : Disk × Int) (h : disk_New room = some r) : PureP Try.prog 20 [.v (.int .i64 room)] (fun a => a = .tup [.agg [.sl (List.map encFile r.1.Files), .v (.int .i64 r.1.Room), .v (.int .i64 r.1.Fuse), .v (.bool r.1.Off)], .v (.int .i64 r.2)]) := by
  unfold disk_New at h
  refine pureW (G := gm_disk_New) tyOk Try.func20 rfl (by kernel_rfl) (by simp [Try.f20]) ?_
  refine Tri.seqK ?_
  refine Tri.run (G := gm_disk_New) tyOk mixed ?_
  conv => whnf
  refine Tri.seqK ?_
  refine Tri.seqK ?_
  refine Tri.run (G := gm_disk_New) tyOk mixed ?_
  conv => whnf
  refine Tri.cond rfl (fun c2 => ?_) (fun c2 => ?_)
  · replace h := if_t c2 h
    refine Tri.seqK ?_
    refine Tri.run (G := gm_disk_New) tyOk mixed ?_
    conv => whnf
    refine Tri.run (G := gm_disk_New) tyOk mixed ?_
    conv => whnf
    refine fin_here ?_
    conv => whnf
    obtain rfl := Option.some.inj h
    rfl
  · replace h := if_f c2 h
    refine Tri.run (G := gm_disk_New) tyOk mixed ?_
    conv => whnf
    refine Tri.seqK ?_
    refine Tri.run (G := gm_disk_New) tyOk mixed ?_
    conv => whnf
    refine Tri.run (G := gm_disk_New) tyOk mixed ?_
    conv => whnf
    refine fin_here ?_
    conv => whnf
    obtain rfl := Option.some.inj h
    rfl
noncomputable def disk_at_1 (f : File) (v : Str) : Option (Bool) :=
  some (decide (f.Name = v))
def gm_disk_at_1 : Gm := ⟨tys, [], [], []⟩
theorem disk_at_1_walk (f : File) (v : Str) (r : Bool) (h : disk_at_1 f v = some r) : CallP Try.prog 46 [.var 9 [.v (.string (bs v))]] [.agg [.v (.string (bs f.Name)), .v (.string (bs f.Safe)), .v (.string (bs f.Wait))], .ptr 0 0] (fun a H' => a = .v (.bool r) ∧ H'.take ([.var 9 [.v (.string (bs v))]] : List Ob).length = [.var 9 [.v (.string (bs v))]]) := by
  unfold disk_at_1 at h
  refine callW (G := gm_disk_at_1) tyOk Try.func46 rfl (by kernel_rfl) (by simp [Try.f46]) ?_
  refine Tri.seqK ?_
  refine Tri.run (G := gm_disk_at_1) tyOk mixed ?_
  conv => whnf
  refine Tri.seqK ?_
  refine Tri.run (G := gm_disk_at_1) tyOk mixed ?_
  conv => whnf
  refine ⟨⟨(decide (f.Name = v)), bs_eq _ _, ?_⟩⟩
  conv => whnf
  refine Tri.run (G := gm_disk_at_1) tyOk mixed ?_
  conv => whnf
  refine fin_pre (S' := ⟨8, 1, ofRegs [(3, .v (.bool (decide (f.Name = v))))], [.var 9 [.v (.string (bs v))]]⟩) (weak_fin _ rfl rfl rfl (.cons (.same rfl) (LeH.rest)) (.cons (.one (.same rfl)) (.nil)) rfl rfl) ?_
  conv => whnf
  obtain rfl := Option.some.inj h
  exact ⟨rfl, rfl⟩
noncomputable def slices_IndexFunc_File__disk_at_1_l4 (s : (List File)) (v : Str) (a164 : Int) : Option ((Int) ⊕ ((Int) ⊕ (Unit))) :=
  if (decide (a164 < (s.length : Int))) then
    (ix s a164).bind fun x179 =>
    (disk_at_1 x179 v).bind fun y181 =>
    if y181 then
      some (.inr (.inl a164))
    else
      some (.inl (IntKind.i64.wrap (a164 + 1)))
  else
    some (.inr (.inr ()))
noncomputable def slices_IndexFunc_File__disk_at_1 (s : (List File)) (v : Str) : Option (Int) :=
  (loop (fun (s169 : Int) => slices_IndexFunc_File__disk_at_1_l4 s v s169) (0 : Int)).bind fun (y165 : (Int) ⊕ (Unit)) =>
  match y165 with
  | (.inl v167) =>
    some v167
  | (.inr v168) =>
    some (-1)
def gm_slices_IndexFunc_File__disk_at_1 : Gm := ⟨tys, [46], [], []⟩
theorem slices_IndexFunc_File__disk_at_1_walk (s : (List File)) (v : Str) (r : Int) (h : slices_IndexFunc_File__disk_at_1 s v = some r) : CallP Try.prog 45 [.var 9 [.v (.string (bs v))]] [.sl (List.map encFile s), .fn (.func 46) [] [.ptr 0 0]] (fun a H' => a = .v (.int .i64 r) ∧ H'.take ([.var 9 [.v (.string (bs v))]] : List Ob).length = [.var 9 [.v (.string (bs v))]]) := by
  unfold slices_IndexFunc_File__disk_at_1 at h
  refine callW (G := gm_slices_IndexFunc_File__disk_at_1) tyOk Try.func45 rfl (by kernel_rfl) (by simp [Try.f45]) ?_
  refine Tri.seqK ?_
  refine Tri.run (G := gm_slices_IndexFunc_File__disk_at_1) tyOk mixed ?_
  conv => whnf
  refine Tri.seqK ?_
  refine Tri.seqK ?_
  refine Tri.run (G := gm_slices_IndexFunc_File__disk_at_1) tyOk mixed ?_
  conv => whnf
  refine ⟨⟨(s.length : Int), (len_map _ _).symm, ?_⟩⟩
  conv => whnf
  refine Tri.block ?_
  replace h := bind_some h
  obtain ⟨y165, q166, h⟩ := h
  refine Tri.cut (fun ex S' => (∃ v167 : Int, y165 = (.inl v167) ∧ ex = .ret ∧ Weak S' ⟨19, 1, ofRegs [(4, .v (.int .i64 v167))], [.var 9 [.v (.string (bs v))]]⟩) ∨ (∃ v168 : Unit, y165 = (.inr v168) ∧ ex = (.exit 0) ∧ Weak S' ⟨19, 1, ofRegs [], [.var 9 [.v (.string (bs v))]]⟩)) ?_ ?_
  · refine Tri.loopF (fun (s169 : Int) => (⟨19, 1, ofRegs [(0, .sl (List.map encFile s)), (1, .fn (.func 46) [] [.ptr 0 0]), (7, .v (.int .i64 (s.length : Int))), (8, .v (.int .i64 s169))], [.var 9 [.v (.string (bs v))]]⟩ : St)) q166 (weak_fin _ rfl rfl rfl (.cons (.same rfl) (LeH.rest)) (.cons (.one (.same rfl)) (.cons (.one (.same rfl)) (.cons (.one (.same rfl)) (.cons (.one (.same rfl)) (.nil))))) rfl rfl) ?_
    rintro a164 v170 hv r171
    have hv : slices_IndexFunc_File__disk_at_1_l4 s v a164 = some v170 := hv
    unfold slices_IndexFunc_File__disk_at_1_l4 at hv
    refine Tri.seqK ?_
    refine Tri.run (G := gm_slices_IndexFunc_File__disk_at_1) tyOk mixed ?_
    conv => whnf
    refine Tri.seqK ?_
    refine Tri.cond rfl (fun c173 => ?_) (fun c173 => ?_)
    · replace hv := if_t c173 hv
      refine Tri.run (G := gm_slices_IndexFunc_File__disk_at_1) tyOk mixed ?_
      conv => whnf
      refine Tri.seqK ?_
      refine Tri.block ?_
      refine Tri.seqK ?_
      refine Tri.run (G := gm_slices_IndexFunc_File__disk_at_1) tyOk mixed ?_
      conv => whnf
      refine Tri.seqK ?_
      refine Tri.run (G := gm_slices_IndexFunc_File__disk_at_1) tyOk mixed ?_
      conv => whnf
      replace hv := bind_some hv
      obtain ⟨x179, q180, hv⟩ := hv
      refine ⟨(ix_some q180).1, ?_⟩
      conv => whnf
      refine ⟨⟨_, map_get encFile (ix_some q180).2, ?_⟩⟩
      conv => whnf
      refine ⟨rfl, ?_⟩
      conv => whnf
      replace hv := bind_some hv
      obtain ⟨y181, q182, hv⟩ := hv
      refine CallP.use (disk_at_1_walk x179 v y181 q182) [0] rfl rfl rfl rfl rfl rfl rfl rfl rfl ?_
      conv => whnf
      refine Tri.cond rfl (fun c183 => ?_) (fun c183 => ?_)
      · replace hv := if_t c183 hv
        refine Tri.seqK ?_
        refine Tri.run (G := gm_slices_IndexFunc_File__disk_at_1) tyOk mixed ?_
        conv => whnf
        refine Tri.run (G := gm_slices_IndexFunc_File__disk_at_1) tyOk mixed ?_
        conv => whnf
        obtain rfl := Option.some.inj hv
        obtain rfl := r171 _ rfl
        exact Or.inl ⟨_, rfl, rfl, weak_fin _ rfl rfl rfl (.cons (.same rfl) (LeH.rest)) (.cons (.one (.same rfl)) (.nil)) rfl rfl⟩
      · replace hv := if_f c183 hv
        refine Tri.run (G := gm_slices_IndexFunc_File__disk_at_1) tyOk mixed ?_
        conv => whnf
        refine Tri.run (G := gm_slices_IndexFunc_File__disk_at_1) tyOk mixed ?_
        conv => whnf
        obtain rfl := Option.some.inj hv
        exact ⟨_, rfl, weak_fin _ rfl rfl rfl (.cons (.same rfl) (LeH.rest)) (.cons (.one (.same rfl)) (.cons (.one (.same rfl)) (.cons (.one (.same rfl)) (.cons (.one (.same rfl)) (.nil))))) rfl rfl⟩
    · replace hv := if_f c173 hv
      refine Tri.run (G := gm_slices_IndexFunc_File__disk_at_1) tyOk mixed ?_
      conv => whnf
      obtain rfl := Option.some.inj hv
      obtain rfl := r171 _ rfl
      exact Or.inr (⟨_, rfl, rfl, weak_fin _ rfl rfl rfl (.cons (.same rfl) (LeH.rest)) (.nil) rfl rfl⟩)
  · rintro ex S' (⟨v167, rfl, rfl, w184⟩ | ⟨v168, rfl, rfl, w184⟩)
    · dsimp only at h
      conv => whnf
      refine fin_pre (S' := ⟨19, 1, ofRegs [(4, .v (.int .i64 v167))], [.var 9 [.v (.string (bs v))]]⟩) (Weak.trans w184 (weak_fin _ rfl rfl rfl (.cons (.same rfl) (LeH.rest)) (.cons (.one (.same rfl)) (.nil)) rfl rfl)) ?_
      conv => whnf
      obtain rfl := Option.some.inj h
      exact ⟨rfl, rfl⟩
    · dsimp only at h
      conv => whnf
      refine Tri.weak w184 ?_
      refine Tri.seqK ?_
      refine Tri.run (G := gm_slices_IndexFunc_File__disk_at_1) tyOk mixed ?_
      conv => whnf
      refine Tri.run (G := gm_slices_IndexFunc_File__disk_at_1) tyOk mixed ?_
      conv => whnf
      refine fin_pre (S' := ⟨19, 1, ofRegs [(4, .v (.int .i64 (-1)))], [.var 9 [.v (.string (bs v))]]⟩) (weak_fin _ rfl rfl rfl (.cons (.same rfl) (LeH.rest)) (.cons (.one (.same rfl)) (.nil)) rfl rfl) ?_
      conv => whnf
      obtain rfl := Option.some.inj h
      exact ⟨rfl, rfl⟩
noncomputable def disk_at (d : Disk) (name : Str) : Option (Int) :=
  (slices_IndexFunc_File__disk_at_1 d.Files name).bind fun y1 =>
  some y1
def gm_disk_at : Gm := ⟨tys, [45], [], []⟩
theorem disk_at_walk (d : Disk) (name : Str) (r : Int) (h : disk_at d name = some r) : PureP Try.prog 36 [.agg [.sl (List.map encFile d.Files), .v (.int .i64 d.Room), .v (.int .i64 d.Fuse), .v (.bool d.Off)], .v (.string (bs name))] (fun a => a = .v (.int .i64 r)) := by
  unfold disk_at at h
  refine pureW (G := gm_disk_at) tyOk Try.func36 rfl (by kernel_rfl) (by simp [Try.f36]) ?_
  refine Tri.seqK ?_
  refine Tri.run (G := gm_disk_at) tyOk mixed ?_
  conv => whnf
  refine Tri.seqK ?_
  refine Tri.run (G := gm_disk_at) tyOk mixed ?_
  conv => whnf
  replace h := bind_some h
  obtain ⟨y1, q2, h⟩ := h
  refine CallP.use (slices_IndexFunc_File__disk_at_1_walk d.Files name y1 q2) [1] rfl rfl rfl rfl rfl rfl rfl rfl rfl ?_
  conv => whnf
  refine Tri.run (G := gm_disk_at) tyOk mixed ?_
  conv => whnf
  refine fin_here ?_
  conv => whnf
  obtain rfl := Option.some.inj h
  rfl
noncomputable def disk_Find (d : Disk) (name : Str) : Option (File × Bool) :=
  (disk_at d name).bind fun y1 =>
  if (decide (y1 < 0)) then
    some (({ Name := [], Safe := [], Wait := [] } : File), false)
  else
    (ix d.Files y1).bind fun x5 =>
    some (x5, true)
def gm_disk_Find : Gm := ⟨tys, [], [], []⟩
theorem disk_Find_walk (d : Disk) (name : Str) (r : File × Bool) (h : disk_Find d name = some r) : PureP Try.prog 18 [.agg [.sl (List.map encFile d.Files), .v (.int .i64 d.Room), .v (.int .i64 d.Fuse), .v (.bool d.Off)], .v (.string (bs name))] (fun a => a = .tup [.agg [.v (.string (bs r.1.Name)), .v (.string (bs r.1.Safe)), .v (.string (bs r.1.Wait))], .v (.bool r.2)]) := by
  unfold disk_Find at h
  refine pureW (G := gm_disk_Find) tyOk Try.func18 rfl (by kernel_rfl) (by simp [Try.f18]) ?_
  refine Tri.seqK ?_
  refine Tri.run (G := gm_disk_Find) tyOk mixed ?_
  conv => whnf
  refine Tri.seqK ?_
  refine Tri.run (G := gm_disk_Find) tyOk mixed ?_
  conv => whnf
  replace h := bind_some h
  obtain ⟨y1, q2, h⟩ := h
  refine PureP.mono (disk_at_walk d name y1 q2) ?_
  rintro _ rfl
  conv => whnf
  refine Tri.seqK ?_
  refine Tri.seqK ?_
  refine Tri.run (G := gm_disk_Find) tyOk mixed ?_
  conv => whnf
  refine Tri.cond rfl (fun c4 => ?_) (fun c4 => ?_)
  · replace h := if_t c4 h
    refine Tri.seqK ?_
    refine Tri.run (G := gm_disk_Find) tyOk mixed ?_
    conv => whnf
    refine Tri.run (G := gm_disk_Find) tyOk mixed ?_
    conv => whnf
    refine fin_here ?_
    conv => whnf
    obtain rfl := Option.some.inj h
    rfl
  · replace h := if_f c4 h
    refine Tri.run (G := gm_disk_Find) tyOk mixed ?_
    conv => whnf
    refine Tri.seqK ?_
    refine Tri.run (G := gm_disk_Find) tyOk mixed ?_
    conv => whnf
    replace h := bind_some h
    obtain ⟨x5, q6, h⟩ := h
    refine ⟨(ix_some q6).1, ?_⟩
    conv => whnf
    refine ⟨⟨_, map_get encFile (ix_some q6).2, ?_⟩⟩
    conv => whnf
    refine ⟨rfl, ?_⟩
    conv => whnf
    refine Tri.run (G := gm_disk_Find) tyOk mixed ?_
    conv => whnf
    refine fin_here ?_
    conv => whnf
    obtain rfl := Option.some.inj h
    rfl
noncomputable def disk_named (name : Str) : Option (Bool) :=
  if (decide ((name.length : Int) ≥ 1)) then
    some (decide ((name.length : Int) ≤ 16))
  else
    some false
def gm_disk_named : Gm := ⟨tys, [], [], []⟩
theorem disk_named_walk (name : Str) (r : Bool) (h : disk_named name = some r) : PureP Try.prog 33 [.v (.string (bs name))] (fun a => a = .v (.bool r)) := by
  unfold disk_named at h
  refine pureW (G := gm_disk_named) tyOk Try.func33 rfl (by kernel_rfl) (by simp [Try.f33]) ?_
  refine Tri.seqK ?_
  refine Tri.run (G := gm_disk_named) tyOk mixed ?_
  conv => whnf
  refine Tri.seqK ?_
  refine Tri.run (G := gm_disk_named) tyOk mixed ?_
  conv => whnf
  refine ⟨⟨(name.length : Int), rfl, ?_⟩⟩
  conv => whnf
  refine cond_mk (fun c1 => ?_) (fun c1 => ?_)
  · replace h := if_t c1 h
    conv => whnf
    refine ⟨⟨(name.length : Int), rfl, ?_⟩⟩
    conv => whnf
    refine Tri.run (G := gm_disk_named) tyOk mixed ?_
    conv => whnf
    refine fin_here ?_
    conv => whnf
    obtain rfl := Option.some.inj h
    rfl
  · replace h := if_f c1 h
    conv => whnf
    refine Tri.run (G := gm_disk_named) tyOk mixed ?_
    conv => whnf
    refine fin_here ?_
    conv => whnf
    obtain rfl := Option.some.inj h
    rfl
noncomputable def disk_size (f : File) : Option (Int) :=
  some (IntKind.i64.wrap ((f.Safe.length : Int) + (f.Wait.length : Int)))
def gm_disk_size : Gm := ⟨tys, [], [], []⟩
theorem disk_size_walk (f : File) (r : Int) (h : disk_size f = some r) : PureP Try.prog 34 [.agg [.v (.string (bs f.Name)), .v (.string (bs f.Safe)), .v (.string (bs f.Wait))]] (fun a => a = .v (.int .i64 r)) := by
  unfold disk_size at h
  refine pureW (G := gm_disk_size) tyOk Try.func34 rfl (by kernel_rfl) (by simp [Try.f34]) ?_
  refine Tri.seqK ?_
  refine Tri.run (G := gm_disk_size) tyOk mixed ?_
  conv => whnf
  refine Tri.seqK ?_
  refine Tri.run (G := gm_disk_size) tyOk mixed ?_
  conv => whnf
  refine ⟨⟨(f.Safe.length : Int), rfl, ?_⟩⟩
  conv => whnf
  refine ⟨⟨(f.Wait.length : Int), rfl, ?_⟩⟩
  conv => whnf
  refine Tri.run (G := gm_disk_size) tyOk mixed ?_
  conv => whnf
  refine fin_here ?_
  conv => whnf
  obtain rfl := Option.some.inj h
  rfl
noncomputable def disk_set_File (l : (List File)) (i : Int) (x : File) : Option ((List File)) :=
  need (l.length * 48 ≤ 140737488355328) <|
  (ix l i).bind fun x2 =>
  some (List.set l (i).toNat x)
def gm_disk_set_File : Gm := ⟨tys, [], [(35, 29, 3)], []⟩
theorem disk_set_File_walk (l : (List File)) (i : Int) (x : File) (r : (List File)) (h : disk_set_File l i x = some r) : PureP Try.prog 37 [.sl (List.map encFile l), .v (.int .i64 i), .agg [.v (.string (bs x.Name)), .v (.string (bs x.Safe)), .v (.string (bs x.Wait))]] (fun a => a = .sl (List.map encFile r)) := by
  unfold disk_set_File at h
  refine pureW (G := gm_disk_set_File) tyOk Try.func37 rfl (by kernel_rfl) (by simp [Try.f37]) ?_
  refine Tri.seqK ?_
  refine Tri.run (G := gm_disk_set_File) tyOk mixed ?_
  conv => whnf
  refine Tri.seqK ?_
  refine Tri.run (G := gm_disk_set_File) tyOk mixed ?_
  conv => whnf
  replace h := need_some h
  obtain ⟨p1, h⟩ := h
  refine FreshP.mono (clone_35 l p1) ?_
  rintro _ rfl
  conv => whnf
  refine Tri.seqK ?_
  refine Tri.run (G := gm_disk_set_File) tyOk mixed ?_
  conv => whnf
  replace h := bind_some h
  obtain ⟨x2, q3, h⟩ := h
  refine ⟨⟨rfl, (ix_lt q3).1, by have := ix_lt q3; simp only [List.length_map, List.length_set, List.length_cons, List.length_nil] at *; omega⟩, ?_⟩
  conv => whnf
  refine ⟨rfl, ?_⟩
  conv => whnf
  refine ⟨⟨_, map_get encFile (ix_some q3).2, ?_⟩⟩
  conv => whnf
  refine ⟨Nat.le_of_ble_eq_true rfl, ?_⟩
  conv => whnf
  refine ⟨⟨List.map encFile (List.set l (i).toNat x), map_set encFile _ _ _ rfl, ?_⟩⟩
  conv => whnf
  refine Tri.seqK ?_
  refine Tri.run (G := gm_disk_set_File) tyOk mixed ?_
  conv => whnf
  refine Tri.run (G := gm_disk_set_File) tyOk mixed ?_
  conv => whnf
  refine fin_here ?_
  conv => whnf
  refine ⟨by simp, ?_⟩
  conv => whnf
  obtain rfl := Option.some.inj h
  rfl
noncomputable def disk_Append (d : Disk) (name : Str) (s : Str) : Option (Disk × Int) :=
  (disk_Find d name).bind fun y1 =>
  (
    if d.Off then
      some (.inr (.inl 6))
    else
      (disk_named name).bind fun y1210 =>
      if (!y1210) then
        some (.inr (.inl 1))
      else
        if ((!y1.2) && (decide ((d.Files.length : Int) ≥ 64))) then
          some (.inl ())
        else
          if (decide ((s.length : Int) > d.Room)) then
            some (.inl ())
          else
            (disk_size y1.1).bind fun y1227 =>
            if (decide ((IntKind.i64.wrap (y1227 + (s.length : Int))) > 65536)) then
              some (.inr (.inr (.inl ())))
            else
              some (.inr (.inr (.inr ())))).bind fun (y1124 : (Unit) ⊕ (Int) ⊕ (Unit) ⊕ (Unit)) =>
  match y1124 with
  | (.inl v1126) =>
    some (d, 5)
  | (.inr (.inl v1127)) =>
    some (d, v1127)
  | (.inr (.inr (.inl v1128))) =>
    some (d, 4)
  | (.inr (.inr (.inr v1129))) =>
    (
      if (!y1.2) then
        need (d.Files.length * 48 ≤ 140737488355328) <|
        need ((d.Files.length + 1) * 48 ≤ 140737488355328) <|
        some (d.Files ++ [({ Name := name, Safe := [], Wait := [] } : File)])
      else
        some d.Files).bind fun (y1237 : (List File)) =>
    (
      if ((decide (d.Fuse ≥ 0)) && (decide (d.Fuse < (s.length : Int)))) then
        need (0 ≤ (0 : Int) ∧ 0 ≤ d.Fuse ∧ d.Fuse ≤ (s.length : Int)) <|
        some (cut s 0 d.Fuse)
      else
        some s).bind fun (y1257 : Str) =>
    (disk_at ({ Files := y1237, Room := d.Room, Fuse := d.Fuse, Off := d.Off } : Disk) name).bind fun y1267 =>
    (ix y1237 y1267).bind fun x1269 =>
    need (x1269.Wait.length + y1257.length ≤ 9223372036854775807) <|
    (disk_set_File y1237 y1267 ({ Name := x1269.Name, Safe := x1269.Safe, Wait := (x1269.Wait ++ y1257) } : File)).bind fun y1272 =>
    if (decide ((y1257.length : Int) < (s.length : Int))) then
      some (({ Files := y1272, Room := (IntKind.i64.wrap (d.Room - (y1257.length : Int))), Fuse := (if (decide (d.Fuse ≥ 0)) then (IntKind.i64.wrap (d.Fuse - (y1257.length : Int))) else d.Fuse), Off := true } : Disk), 6)
    else
      some (({ Files := y1272, Room := (IntKind.i64.wrap (d.Room - (y1257.length : Int))), Fuse := (if (decide (d.Fuse ≥ 0)) then (IntKind.i64.wrap (d.Fuse - (y1257.length : Int))) else d.Fuse), Off := d.Off } : Disk), 0)
def gm_disk_Append : Gm := ⟨tys, [], [(35, 29, 3)], []⟩
theorem disk_Append_walk (d : Disk) (name : Str) (s : Str) (r : Disk × Int) (h : disk_Append d name s = some r) : PureP Try.prog 12 [.agg [.sl (List.map encFile d.Files), .v (.int .i64 d.Room), .v (.int .i64 d.Fuse), .v (.bool d.Off)], .v (.string (bs name)), .v (.string (bs s))] (fun a => a = .tup [.agg [.sl (List.map encFile r.1.Files), .v (.int .i64 r.1.Room), .v (.int .i64 r.1.Fuse), .v (.bool r.1.Off)], .v (.int .i64 r.2)]) := by
  unfold disk_Append at h
  refine pureW (G := gm_disk_Append) tyOk Try.func12 rfl (by kernel_rfl) (by simp [Try.f12]) ?_
  refine Tri.seqK ?_
  refine Tri.run (G := gm_disk_Append) tyOk mixed ?_
  conv => whnf
  refine Tri.seqK ?_
  refine Tri.run (G := gm_disk_Append) tyOk mixed ?_
  conv => whnf
  replace h := bind_some h
  obtain ⟨y1, q2, h⟩ := h
  refine PureP.mono (disk_Find_walk d name y1 q2) ?_
  rintro _ rfl
  conv => whnf
  refine Tri.seqK ?_
  refine Tri.block ?_
  refine Tri.seqK ?_
  refine Tri.block ?_
  refine Tri.seqK ?_
  replace h := bind_some h
  obtain ⟨y1124, q1125, h⟩ := h
  refine Tri.cut (fun ex S' => (∃ v1126 : Unit, y1124 = (.inl v1126) ∧ ex = .normal ∧ Weak S' ⟨118, 0, ofRegs [(3, .ptr 0 0), (6, .ptr 1 0)], [.var 24 [.sl (List.map encFile d.Files), .v (.int .i64 d.Room), .v (.int .i64 d.Fuse), .v (.bool d.Off)], .var 24 [.v (.slice none 0 0), .v (.int .i64 0), .v (.int .i64 0), .v (.bool false)]]⟩) ∨ (∃ v1127 : Int, y1124 = (.inr (.inl v1127)) ∧ ex = .ret ∧ Weak S' ⟨118, 0, ofRegs [(6, .ptr 1 0), (7, .v (.int .i64 v1127))], [.gone, .var 24 [.sl (List.map encFile d.Files), .v (.int .i64 d.Room), .v (.int .i64 d.Fuse), .v (.bool d.Off)]]⟩) ∨ (∃ v1128 : Unit, y1124 = (.inr (.inr (.inl v1128))) ∧ ex = (.exit 5) ∧ Weak S' ⟨118, 0, ofRegs [(3, .ptr 0 0), (6, .ptr 1 0)], [.var 24 [.sl (List.map encFile d.Files), .v (.int .i64 d.Room), .v (.int .i64 d.Fuse), .v (.bool d.Off)], .var 24 [.v (.slice none 0 0), .v (.int .i64 0), .v (.int .i64 0), .v (.bool false)]]⟩) ∨ (∃ v1129 : Unit, y1124 = (.inr (.inr (.inr v1129))) ∧ ex = (.exit 0) ∧ Weak S' ⟨118, 0, ofRegs [(1, .v (.string (bs name))), (2, .v (.string (bs s))), (3, .ptr 0 0), (6, .ptr 1 0), (8, .ptr 2 0), (9, .v (.bool y1.2))], [.var 24 [.sl (List.map encFile d.Files), .v (.int .i64 d.Room), .v (.int .i64 d.Fuse), .v (.bool d.Off)], .var 24 [.v (.slice none 0 0), .v (.int .i64 0), .v (.int .i64 0), .v (.bool false)], .var 29 [.v (.string (bs y1.1.Name)), .v (.string (bs y1.1.Safe)), .v (.string (bs y1.1.Wait))]]⟩)) ?_ ?_
  · refine Tri.block ?_
    refine Tri.block ?_
    refine Tri.seqK ?_
    refine Tri.block ?_
    refine Tri.seqK ?_
    refine Tri.block ?_
    refine Tri.seqK ?_
    refine Tri.seqK ?_
    refine Tri.seqK ?_
    refine Tri.run (G := gm_disk_Append) tyOk mixed ?_
    conv => whnf
    refine Tri.cond rfl (fun c1206 => ?_) (fun c1206 => ?_)
    · replace q1125 := if_t c1206 q1125
      refine Tri.run (G := gm_disk_Append) tyOk mixed ?_
      conv => whnf
      refine Tri.seqK ?_
      refine Tri.seqK ?_
      refine Tri.run (G := gm_disk_Append) tyOk mixed ?_
      conv => whnf
      refine Tri.run (G := gm_disk_Append) tyOk mixed ?_
      conv => whnf
      obtain rfl := Option.some.inj q1125
      exact Or.inr (Or.inl ⟨_, rfl, rfl, weak_fin _ rfl rfl rfl (.cons (.gone) (.cons (.same rfl) (LeH.rest))) (.cons (.one (.same rfl)) (.cons (.one (.same rfl)) (.nil))) rfl rfl⟩)
    · replace q1125 := if_f c1206 q1125
      refine Tri.run (G := gm_disk_Append) tyOk mixed ?_
      conv => whnf
      refine Tri.seqK ?_
      refine Tri.seqK ?_
      refine Tri.run (G := gm_disk_Append) tyOk mixed ?_
      conv => whnf
      replace q1125 := bind_some q1125
      obtain ⟨y1210, q1211, q1125⟩ := q1125
      refine PureP.mono (disk_named_walk name y1210 q1211) ?_
      rintro _ rfl
      conv => whnf
      refine Tri.cond rfl (fun c1212 => ?_) (fun c1212 => ?_)
      · replace q1125 := if_t c1212 q1125
        refine Tri.run (G := gm_disk_Append) tyOk mixed ?_
        conv => whnf
        refine Tri.seqK ?_
        refine Tri.seqK ?_
        refine Tri.run (G := gm_disk_Append) tyOk mixed ?_
        conv => whnf
        refine Tri.run (G := gm_disk_Append) tyOk mixed ?_
        conv => whnf
        obtain rfl := Option.some.inj q1125
        exact Or.inr (Or.inl ⟨_, rfl, rfl, weak_fin _ rfl rfl rfl (.cons (.gone) (.cons (.same rfl) (LeH.rest))) (.cons (.one (.same rfl)) (.cons (.one (.same rfl)) (.nil))) rfl rfl⟩)
      · replace q1125 := if_f c1212 q1125
        refine Tri.run (G := gm_disk_Append) tyOk mixed ?_
        conv => whnf
        refine Tri.seqK ?_
        refine Tri.seqK ?_
        refine Tri.cut (fun ex S' => ex = .normal ∧ Weak S' ⟨118, 0, ofRegs [(1, .v (.string (bs name))), (2, .v (.string (bs s))), (3, .ptr 0 0), (6, .ptr 1 0), (8, .ptr 2 0), (9, .v (.bool y1.2)), (25, .v (.bool ((!y1.2) && (decide ((d.Files.length : Int) ≥ 64)))))], [.var 24 [.sl (List.map encFile d.Files), .v (.int .i64 d.Room), .v (.int .i64 d.Fuse), .v (.bool d.Off)], .var 24 [.v (.slice none 0 0), .v (.int .i64 0), .v (.int .i64 0), .v (.bool false)], .var 29 [.v (.string (bs y1.1.Name)), .v (.string (bs y1.1.Safe)), .v (.string (bs y1.1.Wait))]]⟩) ?_ ?_
        · refine Tri.run (G := gm_disk_Append) tyOk mixed ?_
          conv => whnf
          refine cond_mk (fun c1222 => ?_) (fun c1222 => ?_)
          · replace c1222 : (!y1.2) = true := c1222
            conv => whnf
            refine ⟨⟨(d.Files.length : Int), (len_map _ _).symm, ?_⟩⟩
            conv => whnf
            exact ⟨rfl, weak_fin _ rfl rfl rfl (.cons (.same rfl) (.cons (.same rfl) (.cons (.same rfl) (LeH.rest)))) (.cons (.one (.same rfl)) (.cons (.one (.same rfl)) (.cons (.one (.same rfl)) (.cons (.one (.same rfl)) (.cons (.one (.same rfl)) (.cons (.one (.same rfl)) (.cons (.one (.same (show (.v (.bool (decide ((d.Files.length : Int) ≥ 64))) : AV) = (.v (.bool ((!y1.2) && (decide ((d.Files.length : Int) ≥ 64)))) : AV) from by simp [c1222]))) (.nil)))))))) rfl rfl⟩
          · replace c1222 : (!y1.2) = false := c1222
            conv => whnf
            exact ⟨rfl, weak_fin _ rfl rfl rfl (.cons (.same rfl) (.cons (.same rfl) (.cons (.same rfl) (LeH.rest)))) (.cons (.one (.same rfl)) (.cons (.one (.same rfl)) (.cons (.one (.same rfl)) (.cons (.one (.same rfl)) (.cons (.one (.same rfl)) (.cons (.one (.same rfl)) (.cons (.one (.same (show (.v (.bool false) : AV) = (.v (.bool ((!y1.2) && (decide ((d.Files.length : Int) ≥ 64)))) : AV) from by simp [c1222]))) (.nil)))))))) rfl rfl⟩
        · rintro ex S' ⟨rfl, w1223⟩
          conv => whnf
          refine Tri.weak w1223 ?_
          refine Tri.cond rfl (fun c1224 => ?_) (fun c1224 => ?_)
          · replace q1125 := if_t c1224 q1125
            refine Tri.run (G := gm_disk_Append) tyOk mixed ?_
            conv => whnf
            obtain rfl := Option.some.inj q1125
            exact Or.inl ⟨_, rfl, rfl, weak_fin _ rfl rfl rfl (.cons (.same rfl) (.cons (.same rfl) (LeH.rest))) (.cons (.one (.same rfl)) (.cons (.one (.same rfl)) (.nil))) rfl rfl⟩
          · replace q1125 := if_f c1224 q1125
            refine Tri.run (G := gm_disk_Append) tyOk mixed ?_
            conv => whnf
            refine Tri.seqK ?_
            refine Tri.seqK ?_
            refine Tri.run (G := gm_disk_Append) tyOk mixed ?_
            conv => whnf
            refine ⟨⟨(s.length : Int), rfl, ?_⟩⟩
            conv => whnf
            refine Tri.cond rfl (fun c1226 => ?_) (fun c1226 => ?_)
            · replace q1125 := if_t c1226 q1125
              refine Tri.run (G := gm_disk_Append) tyOk mixed ?_
              conv => whnf
              obtain rfl := Option.some.inj q1125
              exact Or.inl ⟨_, rfl, rfl, weak_fin _ rfl rfl rfl (.cons (.same rfl) (.cons (.same rfl) (LeH.rest))) (.cons (.one (.same rfl)) (.cons (.one (.same rfl)) (.nil))) rfl rfl⟩
            · replace q1125 := if_f c1226 q1125
              refine Tri.run (G := gm_disk_Append) tyOk mixed ?_
              conv => whnf
              refine Tri.seqK ?_
              refine Tri.run (G := gm_disk_Append) tyOk mixed ?_
              conv => whnf
              replace q1125 := bind_some q1125
              obtain ⟨y1227, q1228, q1125⟩ := q1125
              refine PureP.mono (disk_size_walk y1.1 y1227 q1228) ?_
              rintro _ rfl
              conv => whnf
              refine ⟨⟨(s.length : Int), rfl, ?_⟩⟩
              conv => whnf
              refine Tri.cond rfl (fun c1229 => ?_) (fun c1229 => ?_)
              · replace q1125 := if_t c1229 q1125
                refine Tri.run (G := gm_disk_Append) tyOk mixed ?_
                conv => whnf
                obtain rfl := Option.some.inj q1125
                exact Or.inr (Or.inr (Or.inl ⟨_, rfl, rfl, weak_fin _ rfl rfl rfl (.cons (.same rfl) (.cons (.same rfl) (LeH.rest))) (.cons (.one (.same rfl)) (.cons (.one (.same rfl)) (.nil))) rfl rfl⟩))
              · replace q1125 := if_f c1229 q1125
                refine Tri.run (G := gm_disk_Append) tyOk mixed ?_
                conv => whnf
                refine Tri.run (G := gm_disk_Append) tyOk mixed ?_
                conv => whnf
                obtain rfl := Option.some.inj q1125
                exact Or.inr (Or.inr (Or.inr (⟨_, rfl, rfl, weak_fin _ rfl rfl rfl (.cons (.same rfl) (.cons (.same rfl) (.cons (.same rfl) (LeH.rest)))) (.cons (.one (.same rfl)) (.cons (.one (.same rfl)) (.cons (.one (.same rfl)) (.cons (.one (.same rfl)) (.cons (.one (.same rfl)) (.cons (.one (.same rfl)) (.nil))))))) rfl rfl⟩)))
  · rintro ex S' (⟨v1126, rfl, rfl, w1230⟩ | ⟨v1127, rfl, rfl, w1230⟩ | ⟨v1128, rfl, rfl, w1230⟩ | ⟨v1129, rfl, rfl, w1230⟩)
    · dsimp only at h
      conv => whnf
      refine Tri.weak w1230 ?_
      refine Tri.seqK ?_
      refine Tri.seqK ?_
      refine Tri.run (G := gm_disk_Append) tyOk mixed ?_
      conv => whnf
      refine Tri.run (G := gm_disk_Append) tyOk mixed ?_
      conv => whnf
      refine fin_here ?_
      conv => whnf
      obtain rfl := Option.some.inj h
      rfl
    · dsimp only at h
      conv => whnf
      refine fin_pre w1230 ?_
      conv => whnf
      obtain rfl := Option.some.inj h
      rfl
    · dsimp only at h
      conv => whnf
      refine Tri.weak w1230 ?_
      refine Tri.seqK ?_
      refine Tri.seqK ?_
      refine Tri.run (G := gm_disk_Append) tyOk mixed ?_
      conv => whnf
      refine Tri.run (G := gm_disk_Append) tyOk mixed ?_
      conv => whnf
      refine fin_here ?_
      conv => whnf
      obtain rfl := Option.some.inj h
      rfl
    · dsimp only at h
      conv => whnf
      refine Tri.weak w1230 ?_
      refine Tri.seqK ?_
      replace h := bind_some h
      obtain ⟨y1237, q1238, h⟩ := h
      refine Tri.cut (fun ex S' => ex = .normal ∧ Weak S' ⟨118, 0, ofRegs [(1, .v (.string (bs name))), (2, .v (.string (bs s))), (3, .ptr 0 0), (6, .ptr 1 0), (8, .ptr 2 0)], [.var 24 [.sl (List.map encFile y1237), .v (.int .i64 d.Room), .v (.int .i64 d.Fuse), .v (.bool d.Off)], .var 24 [.v (.slice none 0 0), .v (.int .i64 0), .v (.int .i64 0), .v (.bool false)], .var 29 [.v (.string (bs y1.1.Name)), .v (.string (bs y1.1.Safe)), .v (.string (bs y1.1.Wait))]]⟩) ?_ ?_
      · refine Tri.seqK ?_
        refine Tri.run (G := gm_disk_Append) tyOk mixed ?_
        conv => whnf
        refine Tri.cond rfl (fun c1239 => ?_) (fun c1239 => ?_)
        · replace q1238 := if_t c1239 q1238
          refine Tri.run (G := gm_disk_Append) tyOk mixed ?_
          conv => whnf
          replace q1238 := need_some q1238
          obtain ⟨p1240, q1238⟩ := q1238
          refine FreshP.mono (clone_35 d.Files p1240) ?_
          rintro _ rfl
          conv => whnf
          refine ⟨⟨List.map encFile [({ Name := name, Safe := [], Wait := [] } : File)], rfl, ?_⟩⟩
          conv => whnf
          refine ⟨rfl, ?_⟩
          conv => whnf
          refine ⟨rfl, ?_⟩
          conv => whnf
          replace q1238 := need_some q1238
          obtain ⟨p1241, q1238⟩ := q1238
          refine ⟨by simp only [List.length_map]; exact p1241, ?_⟩
          conv => whnf
          refine ⟨⟨List.map encFile (d.Files ++ [({ Name := name, Safe := [], Wait := [] } : File)]), map_app encFile _ _ rfl rfl, ?_⟩⟩
          conv => whnf
          obtain rfl := Option.some.inj q1238
          exact ⟨rfl, Weak.trans (weak_freeze 3 rfl) (weak_fin _ rfl rfl rfl (.cons (.var (.cons (.frz rfl rfl) (.cons (.same rfl) (.cons (.same rfl) (.cons (.same rfl) (.nil)))))) (.cons (.same rfl) (.cons (.same rfl) (LeH.rest)))) (.cons (.one (.same rfl)) (.cons (.one (.same rfl)) (.cons (.one (.same rfl)) (.cons (.one (.same rfl)) (.cons (.one (.same rfl)) (.nil)))))) rfl rfl)⟩
        · replace q1238 := if_f c1239 q1238
          refine Tri.run (G := gm_disk_Append) tyOk mixed ?_
          conv => whnf
          obtain rfl := Option.some.inj q1238
          exact ⟨rfl, weak_fin _ rfl rfl rfl (.cons (.same rfl) (.cons (.same rfl) (.cons (.same rfl) (LeH.rest)))) (.cons (.one (.same rfl)) (.cons (.one (.same rfl)) (.cons (.one (.same rfl)) (.cons (.one (.same rfl)) (.cons (.one (.same rfl)) (.nil)))))) rfl rfl⟩
      · rintro ex S' ⟨rfl, w1242⟩
        conv => whnf
        refine Tri.weak w1242 ?_
        refine Tri.seqK ?_
        refine Tri.run (G := gm_disk_Append) tyOk mixed ?_
        conv => whnf
        refine Tri.seqK ?_
        replace h := bind_some h
        obtain ⟨y1257, q1258, h⟩ := h
        refine Tri.cut (fun ex S' => ex = .normal ∧ Weak S' ⟨118, 0, ofRegs [(1, .v (.string (bs name))), (2, .v (.string (bs s))), (3, .ptr 0 0), (6, .ptr 1 0), (8, .ptr 2 0), (10, .v (.string (bs y1257)))], [.var 24 [.sl (List.map encFile y1237), .v (.int .i64 d.Room), .v (.int .i64 d.Fuse), .v (.bool d.Off)], .var 24 [.v (.slice none 0 0), .v (.int .i64 0), .v (.int .i64 0), .v (.bool false)], .var 29 [.v (.string (bs y1.1.Name)), .v (.string (bs y1.1.Safe)), .v (.string (bs y1.1.Wait))]]⟩) ?_ ?_
        · refine Tri.seqK ?_
          refine Tri.cut (fun ex S' => ex = .normal ∧ Weak S' ⟨118, 0, ofRegs [(1, .v (.string (bs name))), (2, .v (.string (bs s))), (3, .ptr 0 0), (6, .ptr 1 0), (8, .ptr 2 0), (10, .v (.string (bs s))), (71, .v (.bool ((decide (d.Fuse ≥ 0)) && (decide (d.Fuse < (s.length : Int))))))], [.var 24 [.sl (List.map encFile y1237), .v (.int .i64 d.Room), .v (.int .i64 d.Fuse), .v (.bool d.Off)], .var 24 [.v (.slice none 0 0), .v (.int .i64 0), .v (.int .i64 0), .v (.bool false)], .var 29 [.v (.string (bs y1.1.Name)), .v (.string (bs y1.1.Safe)), .v (.string (bs y1.1.Wait))]]⟩) ?_ ?_
          · refine Tri.run (G := gm_disk_Append) tyOk mixed ?_
            conv => whnf
            refine cond_mk (fun c1262 => ?_) (fun c1262 => ?_)
            · replace c1262 : (decide (d.Fuse ≥ 0)) = true := c1262
              conv => whnf
              refine ⟨⟨(s.length : Int), rfl, ?_⟩⟩
              conv => whnf
              exact ⟨rfl, weak_fin _ rfl rfl rfl (.cons (.same rfl) (.cons (.same rfl) (.cons (.same rfl) (LeH.rest)))) (.cons (.one (.same rfl)) (.cons (.one (.same rfl)) (.cons (.one (.same rfl)) (.cons (.one (.same rfl)) (.cons (.one (.same rfl)) (.cons (.one (.same rfl)) (.cons (.one (.same (show (.v (.bool (decide (d.Fuse < (s.length : Int)))) : AV) = (.v (.bool ((decide (d.Fuse ≥ 0)) && (decide (d.Fuse < (s.length : Int))))) : AV) from by simp [c1262]))) (.nil)))))))) rfl rfl⟩
            · replace c1262 : (decide (d.Fuse ≥ 0)) = false := c1262
              conv => whnf
              exact ⟨rfl, weak_fin _ rfl rfl rfl (.cons (.same rfl) (.cons (.same rfl) (.cons (.same rfl) (LeH.rest)))) (.cons (.one (.same rfl)) (.cons (.one (.same rfl)) (.cons (.one (.same rfl)) (.cons (.one (.same rfl)) (.cons (.one (.same rfl)) (.cons (.one (.same rfl)) (.cons (.one (.same (show (.v (.bool false) : AV) = (.v (.bool ((decide (d.Fuse ≥ 0)) && (decide (d.Fuse < (s.length : Int))))) : AV) from by simp [c1262]))) (.nil)))))))) rfl rfl⟩
          · rintro ex S' ⟨rfl, w1263⟩
            conv => whnf
            refine Tri.weak w1263 ?_
            refine Tri.cond rfl (fun c1264 => ?_) (fun c1264 => ?_)
            · replace q1258 := if_t c1264 q1258
              refine Tri.run (G := gm_disk_Append) tyOk mixed ?_
              conv => whnf
              replace q1258 := need_some q1258
              obtain ⟨p1265, q1258⟩ := q1258
              refine ⟨p1265, ?_⟩
              conv => whnf
              refine ⟨⟨bs (cut s 0 d.Fuse), bs_cut _ _ _, ?_⟩⟩
              conv => whnf
              obtain rfl := Option.some.inj q1258
              exact ⟨rfl, weak_fin _ rfl rfl rfl (.cons (.same rfl) (.cons (.same rfl) (.cons (.same rfl) (LeH.rest)))) (.cons (.one (.same rfl)) (.cons (.one (.same rfl)) (.cons (.one (.same rfl)) (.cons (.one (.same rfl)) (.cons (.one (.same rfl)) (.cons (.one (.same rfl)) (.nil))))))) rfl rfl⟩
            · replace q1258 := if_f c1264 q1258
              refine Tri.run (G := gm_disk_Append) tyOk mixed ?_
              conv => whnf
              obtain rfl := Option.some.inj q1258
              exact ⟨rfl, weak_fin _ rfl rfl rfl (.cons (.same rfl) (.cons (.same rfl) (.cons (.same rfl) (LeH.rest)))) (.cons (.one (.same rfl)) (.cons (.one (.same rfl)) (.cons (.one (.same rfl)) (.cons (.one (.same rfl)) (.cons (.one (.same rfl)) (.cons (.one (.same rfl)) (.nil))))))) rfl rfl⟩
        · rintro ex S' ⟨rfl, w1266⟩
          conv => whnf
          refine Tri.weak w1266 ?_
          refine Tri.seqK ?_
          refine Tri.run (G := gm_disk_Append) tyOk mixed ?_
          conv => whnf
          replace h := bind_some h
          obtain ⟨y1267, q1268, h⟩ := h
          refine PureP.mono (disk_at_walk ({ Files := y1237, Room := d.Room, Fuse := d.Fuse, Off := d.Off } : Disk) name y1267 q1268) ?_
          rintro _ rfl
          conv => whnf
          refine Tri.seqK ?_
          refine Tri.run (G := gm_disk_Append) tyOk mixed ?_
          conv => whnf
          replace h := bind_some h
          obtain ⟨x1269, q1270, h⟩ := h
          refine ⟨(ix_some q1270).1, ?_⟩
          conv => whnf
          refine ⟨⟨_, map_get encFile (ix_some q1270).2, ?_⟩⟩
          conv => whnf
          refine ⟨rfl, ?_⟩
          conv => whnf
          refine Tri.seqK ?_
          refine Tri.run (G := gm_disk_Append) tyOk mixed ?_
          conv => whnf
          replace h := need_some h
          obtain ⟨p1271, h⟩ := h
          refine ⟨p1271, ?_⟩
          conv => whnf
          refine ⟨⟨bs (x1269.Wait ++ y1257), bs_append _ _, ?_⟩⟩
          conv => whnf
          refine Tri.seqK ?_
          refine Tri.run (G := gm_disk_Append) tyOk mixed ?_
          conv => whnf
          replace h := bind_some h
          obtain ⟨y1272, q1273, h⟩ := h
          refine PureP.mono (disk_set_File_walk y1237 y1267 ({ Name := x1269.Name, Safe := x1269.Safe, Wait := (x1269.Wait ++ y1257) } : File) y1272 q1273) ?_
          rintro _ rfl
          conv => whnf
          refine Tri.seqK ?_
          refine Tri.run (G := gm_disk_Append) tyOk mixed ?_
          conv => whnf
          refine ⟨⟨(y1257.length : Int), rfl, ?_⟩⟩
          conv => whnf
          refine Tri.seqK ?_
          refine Tri.cut (fun ex S' => ex = .normal ∧ Weak S' ⟨118, 0, ofRegs [(2, .v (.string (bs s))), (3, .ptr 0 0), (6, .ptr 1 0), (10, .v (.string (bs y1257)))], [.var 24 [.sl (List.map encFile y1272), .v (.int .i64 (IntKind.i64.wrap (d.Room - (y1257.length : Int)))), .v (.int .i64 (if (decide (d.Fuse ≥ 0)) then (IntKind.i64.wrap (d.Fuse - (y1257.length : Int))) else d.Fuse)), .v (.bool d.Off)], .var 24 [.v (.slice none 0 0), .v (.int .i64 0), .v (.int .i64 0), .v (.bool false)]]⟩) ?_ ?_
          · refine Tri.seqK ?_
            refine Tri.run (G := gm_disk_Append) tyOk mixed ?_
            conv => whnf
            refine Tri.cond rfl (fun c1277 => ?_) (fun c1277 => ?_)
            · replace c1277 : (decide (d.Fuse ≥ 0)) = true := c1277
              refine Tri.run (G := gm_disk_Append) tyOk mixed ?_
              conv => whnf
              refine ⟨⟨(y1257.length : Int), rfl, ?_⟩⟩
              conv => whnf
              exact ⟨rfl, weak_fin _ rfl rfl rfl (.cons (.var (.cons (.same rfl) (.cons (.same rfl) (.cons (.same (show (.v (.int .i64 (IntKind.i64.wrap (d.Fuse - (y1257.length : Int)))) : AV) = (.v (.int .i64 (if (decide (d.Fuse ≥ 0)) then (IntKind.i64.wrap (d.Fuse - (y1257.length : Int))) else d.Fuse)) : AV) from by simp [c1277])) (.cons (.same rfl) (.nil)))))) (.cons (.same rfl) (LeH.rest))) (.cons (.one (.same rfl)) (.cons (.one (.same rfl)) (.cons (.one (.same rfl)) (.cons (.one (.same rfl)) (.nil))))) rfl rfl⟩
            · replace c1277 : (decide (d.Fuse ≥ 0)) = false := c1277
              refine Tri.run (G := gm_disk_Append) tyOk mixed ?_
              conv => whnf
              exact ⟨rfl, weak_fin _ rfl rfl rfl (.cons (.var (.cons (.same rfl) (.cons (.same rfl) (.cons (.same (show (.v (.int .i64 d.Fuse) : AV) = (.v (.int .i64 (if (decide (d.Fuse ≥ 0)) then (IntKind.i64.wrap (d.Fuse - (y1257.length : Int))) else d.Fuse)) : AV) from by simp [c1277])) (.cons (.same rfl) (.nil)))))) (.cons (.same rfl) (LeH.rest))) (.cons (.one (.same rfl)) (.cons (.one (.same rfl)) (.cons (.one (.same rfl)) (.cons (.one (.same rfl)) (.nil))))) rfl rfl⟩
          · rintro ex S' ⟨rfl, w1278⟩
            conv => whnf
            refine Tri.weak w1278 ?_
            refine Tri.seqK ?_
            refine Tri.seqK ?_
            refine Tri.run (G := gm_disk_Append) tyOk mixed ?_
            conv => whnf
            refine ⟨⟨(y1257.length : Int), rfl, ?_⟩⟩
            conv => whnf
            refine ⟨⟨(s.length : Int), rfl, ?_⟩⟩
            conv => whnf
            refine Tri.cond rfl (fun c1280 => ?_) (fun c1280 => ?_)
            · replace h := if_t c1280 h
              refine Tri.seqK ?_
              refine Tri.run (G := gm_disk_Append) tyOk mixed ?_
              conv => whnf
              refine Tri.seqK ?_
              refine Tri.run (G := gm_disk_Append) tyOk mixed ?_
              conv => whnf
              refine Tri.run (G := gm_disk_Append) tyOk mixed ?_
              conv => whnf
              refine fin_here ?_
              conv => whnf
              obtain rfl := Option.some.inj h
              rfl
            · replace h := if_f c1280 h
              refine Tri.run (G := gm_disk_Append) tyOk mixed ?_
              conv => whnf
              refine Tri.seqK ?_
              refine Tri.run (G := gm_disk_Append) tyOk mixed ?_
              conv => whnf
              refine Tri.run (G := gm_disk_Append) tyOk mixed ?_
              conv => whnf
              refine fin_here ?_
              conv => whnf
              obtain rfl := Option.some.inj h
              rfl
noncomputable def disk_Sync (d : Disk) (name : Str) : Option (Disk × Int) :=
  (disk_at d name).bind fun y1 =>
  if d.Off then
    some (d, 6)
  else
    if (decide (y1 < 0)) then
      some (d, 7)
    else
      (ix d.Files y1).bind fun x7 =>
      need (x7.Safe.length + x7.Wait.length ≤ 9223372036854775807) <|
      (disk_set_File d.Files y1 ({ Name := x7.Name, Safe := (x7.Safe ++ x7.Wait), Wait := [] } : File)).bind fun y10 =>
      some (({ Files := y10, Room := d.Room, Fuse := d.Fuse, Off := d.Off } : Disk), 0)
def gm_disk_Sync : Gm := ⟨tys, [], [], []⟩
theorem disk_Sync_walk (d : Disk) (name : Str) (r : Disk × Int) (h : disk_Sync d name = some r) : PureP Try.prog 14 [.agg [.sl (List.map encFile d.Files), .v (.int .i64 d.Room), .v (.int .i64 d.Fuse), .v (.bool d.Off)], .v (.string (bs name))] (fun a => a = .tup [.agg [.sl (List.map encFile r.1.Files), .v (.int .i64 r.1.Room), .v (.int .i64 r.1.Fuse), .v (.bool r.1.Off)], .v (.int .i64 r.2)]) := by
  unfold disk_Sync at h
  refine pureW (G := gm_disk_Sync) tyOk Try.func14 rfl (by kernel_rfl) (by simp [Try.f14]) ?_
  refine Tri.seqK ?_
  refine Tri.run (G := gm_disk_Sync) tyOk mixed ?_
  conv => whnf
  refine Tri.seqK ?_
  refine Tri.run (G := gm_disk_Sync) tyOk mixed ?_
  conv => whnf
  replace h := bind_some h
  obtain ⟨y1, q2, h⟩ := h
  refine PureP.mono (disk_at_walk d name y1 q2) ?_
  rintro _ rfl
  conv => whnf
  refine Tri.seqK ?_
  refine Tri.block ?_
  refine Tri.seqK ?_
  refine Tri.run (G := gm_disk_Sync) tyOk mixed ?_
  conv => whnf
  refine Tri.cond rfl (fun c5 => ?_) (fun c5 => ?_)
  · replace h := if_t c5 h
    refine Tri.seqK ?_
    refine Tri.run (G := gm_disk_Sync) tyOk mixed ?_
    conv => whnf
    refine Tri.run (G := gm_disk_Sync) tyOk mixed ?_
    conv => whnf
    refine fin_here ?_
    conv => whnf
    obtain rfl := Option.some.inj h
    rfl
  · replace h := if_f c5 h
    refine Tri.seqK ?_
    refine Tri.run (G := gm_disk_Sync) tyOk mixed ?_
    conv => whnf
    refine Tri.cond rfl (fun c6 => ?_) (fun c6 => ?_)
    · replace h := if_t c6 h
      refine Tri.seqK ?_
      refine Tri.run (G := gm_disk_Sync) tyOk mixed ?_
      conv => whnf
      refine Tri.run (G := gm_disk_Sync) tyOk mixed ?_
      conv => whnf
      refine fin_here ?_
      conv => whnf
      obtain rfl := Option.some.inj h
      rfl
    · replace h := if_f c6 h
      refine Tri.run (G := gm_disk_Sync) tyOk mixed ?_
      conv => whnf
      refine Tri.seqK ?_
      refine Tri.run (G := gm_disk_Sync) tyOk mixed ?_
      conv => whnf
      replace h := bind_some h
      obtain ⟨x7, q8, h⟩ := h
      refine ⟨(ix_some q8).1, ?_⟩
      conv => whnf
      refine ⟨⟨_, map_get encFile (ix_some q8).2, ?_⟩⟩
      conv => whnf
      refine ⟨rfl, ?_⟩
      conv => whnf
      refine Tri.seqK ?_
      refine Tri.run (G := gm_disk_Sync) tyOk mixed ?_
      conv => whnf
      replace h := need_some h
      obtain ⟨p9, h⟩ := h
      refine ⟨p9, ?_⟩
      conv => whnf
      refine ⟨⟨bs (x7.Safe ++ x7.Wait), bs_append _ _, ?_⟩⟩
      conv => whnf
      refine Tri.seqK ?_
      refine Tri.run (G := gm_disk_Sync) tyOk mixed ?_
      conv => whnf
      replace h := bind_some h
      obtain ⟨y10, q11, h⟩ := h
      refine PureP.mono (disk_set_File_walk d.Files y1 ({ Name := x7.Name, Safe := (x7.Safe ++ x7.Wait), Wait := [] } : File) y10 q11) ?_
      rintro _ rfl
      conv => whnf
      refine Tri.seqK ?_
      refine Tri.run (G := gm_disk_Sync) tyOk mixed ?_
      conv => whnf
      refine Tri.run (G := gm_disk_Sync) tyOk mixed ?_
      conv => whnf
      refine fin_here ?_
      conv => whnf
      obtain rfl := Option.some.inj h
      rfl
noncomputable def disk_Crash_l2 (d : Disk) (keeps : (List Int)) (a267 : Int) (a268 : Int) (a269 : (List File)) : Option ((Int × Int × (List File)) ⊕ (Int × (List File))) :=
  if (decide (a267 < (d.Files.length : Int))) then
    (ix a269 a267).bind fun x301 =>
    (
      if (decide (a267 < (keeps.length : Int))) then
        (ix keeps a267).bind fun x318 =>
        some (if (x301.Wait.length : Int) < (if x318 < 0 then 0 else x318) then (x301.Wait.length : Int) else (if x318 < 0 then 0 else x318))
      else
        some 0).bind fun (y313 : Int) =>
    need (0 ≤ (0 : Int) ∧ 0 ≤ y313 ∧ y313 ≤ (x301.Wait.length : Int)) <|
    need (x301.Safe.length + (cut x301.Wait 0 y313).length ≤ 9223372036854775807) <|
    some (.inl ((IntKind.i64.wrap (a267 + 1)), (IntKind.i64.wrap (a268 + (IntKind.i64.wrap ((x301.Wait.length : Int) - y313)))), (List.set a269 (a267).toNat ({ Name := x301.Name, Safe := (x301.Safe ++ (cut x301.Wait 0 y313)), Wait := [] } : File))))
  else
    some (.inr (a268, a269))
noncomputable def disk_Crash (d : Disk) (keeps : (List Int)) : Option (Disk) :=
  need (d.Files.length * 48 ≤ 140737488355328) <|
  (loop (fun (s272 : Int × Int × (List File)) => disk_Crash_l2 d keeps s272.1 s272.2.1 s272.2.2) ((0 : Int), d.Room, d.Files)).bind fun (y270 : Int × (List File)) =>
  some ({ Files := y270.2, Room := y270.1, Fuse := (-1), Off := false } : Disk)
def gm_disk_Crash : Gm := ⟨tys, [], [(35, 29, 3)], []⟩
theorem disk_Crash_walk (d : Disk) (keeps : (List Int)) (r : Disk) (h : disk_Crash d keeps = some r) : PureP Try.prog 23 [.agg [.sl (List.map encFile d.Files), .v (.int .i64 d.Room), .v (.int .i64 d.Fuse), .v (.bool d.Off)], .sl (List.map (encI .i64) keeps)] (fun a => a = .agg [.sl (List.map encFile r.Files), .v (.int .i64 r.Room), .v (.int .i64 r.Fuse), .v (.bool r.Off)]) := by
  unfold disk_Crash at h
  refine pureW (G := gm_disk_Crash) tyOk Try.func23 rfl (by kernel_rfl) (by simp [Try.f23]) ?_
  refine Tri.seqK ?_
  refine Tri.run (G := gm_disk_Crash) tyOk mixed ?_
  conv => whnf
  refine Tri.seqK ?_
  refine Tri.run (G := gm_disk_Crash) tyOk mixed ?_
  conv => whnf
  replace h := need_some h
  obtain ⟨p1, h⟩ := h
  refine FreshP.mono (clone_35 d.Files p1) ?_
  rintro _ rfl
  conv => whnf
  refine Tri.seqK ?_
  refine Tri.seqK ?_
  refine Tri.run (G := gm_disk_Crash) tyOk mixed ?_
  conv => whnf
  refine ⟨rfl, ?_⟩
  conv => whnf
  refine ⟨⟨(d.Files.length : Int), by simp, ?_⟩⟩
  conv => whnf
  refine Tri.block ?_
  replace h := bind_some h
  obtain ⟨y270, q271, h⟩ := h
  refine Tri.cut (fun ex S' => ex = (.exit 0) ∧ Weak S' ⟨60, 0, ofRegs [(2, .ptr 0 0), (4, .ptr 1 0)], [.var 24 [.row 2 ((List.map encFile y270.2).length), .v (.int .i64 y270.1), .v (.int .i64 d.Fuse), .v (.bool d.Off)], .var 24 [.v (.slice none 0 0), .v (.int .i64 0), .v (.int .i64 0), .v (.bool false)], .row 29 3 (List.map encFile y270.2)]⟩) ?_ ?_
  · refine Tri.loopF (fun (s272 : Int × Int × (List File)) => (⟨60, 0, ofRegs [(1, .sl (List.map (encI .i64) keeps)), (2, .ptr 0 0), (4, .ptr 1 0), (13, .row 2 ((List.map encFile s272.2.2).length)), (14, .v (.int .i64 (d.Files.length : Int))), (15, .v (.int .i64 s272.1))], [.var 24 [.row 2 ((List.map encFile s272.2.2).length), .v (.int .i64 s272.2.1), .v (.int .i64 d.Fuse), .v (.bool d.Off)], .var 24 [.v (.slice none 0 0), .v (.int .i64 0), .v (.int .i64 0), .v (.bool false)], .row 29 3 (List.map encFile s272.2.2)]⟩ : St)) q271 (weak_fin _ rfl rfl rfl (.cons (.same rfl) (.cons (.same rfl) (.cons (.same rfl) (LeH.rest)))) (.cons (.one (.same rfl)) (.cons (.one (.same rfl)) (.cons (.one (.same rfl)) (.cons (.one (.same rfl)) (.cons (.one (.same rfl)) (.cons (.one (.same rfl)) (.nil))))))) rfl rfl) ?_
    rintro ⟨a267, a268, a269⟩ v273 hv r274
    have hv : disk_Crash_l2 d keeps a267 a268 a269 = some v273 := hv
    unfold disk_Crash_l2 at hv
    dsimp only
    refine Tri.seqK ?_
    refine Tri.run (G := gm_disk_Crash) tyOk mixed ?_
    conv => whnf
    refine Tri.seqK ?_
    refine Tri.cond rfl (fun c276 => ?_) (fun c276 => ?_)
    · replace hv := if_t c276 hv
      refine Tri.run (G := gm_disk_Crash) tyOk mixed ?_
      conv => whnf
      refine Tri.seqK ?_
      refine Tri.block ?_
      refine Tri.seqK ?_
      refine Tri.run (G := gm_disk_Crash) tyOk mixed ?_
      conv => whnf
      replace hv := bind_some hv
      obtain ⟨x301, q302, hv⟩ := hv
      refine ⟨⟨rfl, (ix_lt q302).1, by have := ix_lt q302; simp only [List.length_map, List.length_set, List.length_cons, List.length_nil] at *; omega⟩, ?_⟩
      conv => whnf
      refine ⟨rfl, ?_⟩
      conv => whnf
      refine ⟨⟨_, map_get encFile (ix_some q302).2, ?_⟩⟩
      conv => whnf
      refine Tri.seqK ?_
      refine Tri.run (G := gm_disk_Crash) tyOk mixed ?_
      conv => whnf
      refine Tri.seqK ?_
      replace hv := bind_some hv
      obtain ⟨y313, q314, hv⟩ := hv
      refine Tri.cut (fun ex S' => ex = .normal ∧ Weak S' ⟨60, 0, ofRegs [(1, .sl (List.map (encI .i64) keeps)), (2, .ptr 0 0), (4, .ptr 1 0), (5, .v (.int .i64 a267)), (6, .ptr 3 0), (7, .v (.int .i64 y313)), (13, .row 2 ((List.map encFile a269).length)), (14, .v (.int .i64 (d.Files.length : Int))), (15, .v (.int .i64 a267))], [.var 24 [.row 2 ((List.map encFile a269).length), .v (.int .i64 a268), .v (.int .i64 d.Fuse), .v (.bool d.Off)], .var 24 [.v (.slice none 0 0), .v (.int .i64 0), .v (.int .i64 0), .v (.bool false)], .row 29 3 (List.map encFile a269), .var 29 [.v (.string (bs x301.Name)), .v (.string (bs x301.Safe)), .v (.string (bs x301.Wait))]]⟩) ?_ ?_
      · refine Tri.seqK ?_
        refine Tri.run (G := gm_disk_Crash) tyOk mixed ?_
        conv => whnf
        refine ⟨⟨(keeps.length : Int), (len_map _ _).symm, ?_⟩⟩
        conv => whnf
        refine Tri.cond rfl (fun c315 => ?_) (fun c315 => ?_)
        · replace q314 := if_t c315 q314
          refine Tri.run (G := gm_disk_Crash) tyOk mixed ?_
          conv => whnf
          refine Draw.one 10 (.take 0 (.take 1 (.take 2 (.take 3 (.take 4 (.take 5 (.take 6 (.take 7 (.take 8 (.take 9 (.fin))))))))))) [] (by kernel_rfl) ?_
          conv => whnf
          replace q314 := bind_some q314
          obtain ⟨x318, q319, q314⟩ := q314
          refine ⟨(ix_some q319).1, ?_⟩
          conv => whnf
          refine ⟨⟨_, map_get (encI .i64) (ix_some q319).2, ?_⟩⟩
          conv => whnf
          refine ⟨rfl, ?_⟩
          conv => whnf
          refine ⟨⟨(x301.Wait.length : Int), rfl, ?_⟩⟩
          conv => whnf
          obtain rfl := Option.some.inj q314
          exact ⟨rfl, weak_fin _ rfl rfl rfl (.cons (.same rfl) (.cons (.same rfl) (.cons (.same rfl) (.cons (.same rfl) (LeH.rest))))) (.cons (.one (.same rfl)) (.cons (.one (.same rfl)) (.cons (.one (.same rfl)) (.cons (.one (.same rfl)) (.cons (.one (.same rfl)) (.cons (.one (.same rfl)) (.cons (.one (.same rfl)) (.cons (.one (.same rfl)) (.cons (.one (.same rfl)) (.nil)))))))))) rfl rfl⟩
        · replace q314 := if_f c315 q314
          refine Tri.run (G := gm_disk_Crash) tyOk mixed ?_
          conv => whnf
          obtain rfl := Option.some.inj q314
          exact ⟨rfl, weak_fin _ rfl rfl rfl (.cons (.same rfl) (.cons (.same rfl) (.cons (.same rfl) (.cons (.same rfl) (LeH.rest))))) (.cons (.one (.same rfl)) (.cons (.one (.same rfl)) (.cons (.one (.same rfl)) (.cons (.one (.same rfl)) (.cons (.one (.same rfl)) (.cons (.one (.same rfl)) (.cons (.one (.same rfl)) (.cons (.one (.same rfl)) (.cons (.one (.same rfl)) (.nil)))))))))) rfl rfl⟩
      · rintro ex S' ⟨rfl, w320⟩
        conv => whnf
        refine Tri.weak w320 ?_
        refine Tri.seqK ?_
        refine Tri.run (G := gm_disk_Crash) tyOk mixed ?_
        conv => whnf
        refine ⟨⟨(x301.Wait.length : Int), rfl, ?_⟩⟩
        conv => whnf
        refine Tri.run (G := gm_disk_Crash) tyOk mixed ?_
        conv => whnf
        refine Draw.one 14 (.take 0 (.take 1 (.take 2 (.take 3 (.take 4 (.take 5 (.take 6 (.take 7 (.take 8 (.take 9 (.take 10 (.take 11 (.take 12 (.take 13 (.fin))))))))))))))) [] (by kernel_rfl) ?_
        conv => whnf
        replace hv := need_some hv
        obtain ⟨p323, hv⟩ := hv
        refine ⟨p323, ?_⟩
        conv => whnf
        refine ⟨⟨bs (cut x301.Wait 0 y313), bs_cut _ _ _, ?_⟩⟩
        conv => whnf
        replace hv := need_some hv
        obtain ⟨p324, hv⟩ := hv
        refine ⟨p324, ?_⟩
        conv => whnf
        refine ⟨⟨bs (x301.Safe ++ (cut x301.Wait 0 y313)), bs_append _ _, ?_⟩⟩
        conv => whnf
        refine ⟨⟨rfl, (ix_lt q302).1, by have := ix_lt q302; simp only [List.length_map, List.length_set, List.length_cons, List.length_nil] at *; omega⟩, ?_⟩
        conv => whnf
        refine ⟨rfl, ?_⟩
        conv => whnf
        refine ⟨⟨_, map_get encFile (ix_some q302).2, ?_⟩⟩
        conv => whnf
        refine ⟨Nat.le_of_ble_eq_true rfl, ?_⟩
        conv => whnf
        refine ⟨⟨List.map encFile (List.set a269 (a267).toNat ({ Name := x301.Name, Safe := (x301.Safe ++ (cut x301.Wait 0 y313)), Wait := [] } : File)), map_set encFile _ _ _ rfl, ?_⟩⟩
        conv => whnf
        refine Tri.run (G := gm_disk_Crash) tyOk mixed ?_
        conv => whnf
        obtain rfl := Option.some.inj hv
        exact ⟨_, rfl, weak_fin _ rfl rfl rfl (.cons (.var (.cons (.same (show (.row 2 ((List.map encFile a269).length) : AV) = (.row 2 ((List.map encFile (List.set a269 (a267).toNat ({ Name := x301.Name, Safe := (x301.Safe ++ (cut x301.Wait 0 y313)), Wait := [] } : File))).length) : AV) from congrArg (AV.row 2) (by simp))) (.cons (.same rfl) (.cons (.same rfl) (.cons (.same rfl) (.nil)))))) (.cons (.same rfl) (.cons (.same rfl) (LeH.rest)))) (.cons (.one (.same rfl)) (.cons (.one (.same rfl)) (.cons (.one (.same rfl)) (.cons (.one (.same (show (.row 2 ((List.map encFile a269).length) : AV) = (.row 2 ((List.map encFile (List.set a269 (a267).toNat ({ Name := x301.Name, Safe := (x301.Safe ++ (cut x301.Wait 0 y313)), Wait := [] } : File))).length) : AV) from congrArg (AV.row 2) (by simp)))) (.cons (.one (.same rfl)) (.cons (.one (.same rfl)) (.nil))))))) rfl rfl⟩
    · replace hv := if_f c276 hv
      refine Tri.run (G := gm_disk_Crash) tyOk mixed ?_
      conv => whnf
      obtain rfl := Option.some.inj hv
      obtain rfl := r274 _ rfl
      exact ⟨rfl, weak_fin _ rfl rfl rfl (.cons (.same rfl) (.cons (.same rfl) (.cons (.same rfl) (LeH.rest)))) (.cons (.one (.same rfl)) (.cons (.one (.same rfl)) (.nil))) rfl rfl⟩
  · rintro ex S' ⟨rfl, w325⟩
    conv => whnf
    refine Tri.weak w325 ?_
    refine Tri.seqK ?_
    refine Tri.run (G := gm_disk_Crash) tyOk mixed ?_
    conv => whnf
    refine Tri.seqK ?_
    refine Tri.run (G := gm_disk_Crash) tyOk mixed ?_
    conv => whnf
    refine Tri.run (G := gm_disk_Crash) tyOk mixed ?_
    conv => whnf
    refine fin_here ?_
    conv => whnf
    refine ⟨rfl, ?_⟩
    conv => whnf
    obtain rfl := Option.some.inj h
    rfl
noncomputable def disk_Read (d : Disk) (name : Str) : Option (Str × Int) :=
  (disk_Find d name).bind fun y1 =>
  if (!y1.2) then
    some ([], 7)
  else
    need (y1.1.Safe.length + y1.1.Wait.length ≤ 9223372036854775807) <|
    some ((y1.1.Safe ++ y1.1.Wait), 0)
def gm_disk_Read : Gm := ⟨tys, [], [], []⟩
theorem disk_Read_walk (d : Disk) (name : Str) (r : Str × Int) (h : disk_Read d name = some r) : PureP Try.prog 16 [.agg [.sl (List.map encFile d.Files), .v (.int .i64 d.Room), .v (.int .i64 d.Fuse), .v (.bool d.Off)], .v (.string (bs name))] (fun a => a = .tup [.v (.string (bs r.1)), .v (.int .i64 r.2)]) := by
  unfold disk_Read at h
  refine pureW (G := gm_disk_Read) tyOk Try.func16 rfl (by kernel_rfl) (by simp [Try.f16]) ?_
  refine Tri.seqK ?_
  refine Tri.run (G := gm_disk_Read) tyOk mixed ?_
  conv => whnf
  refine Tri.seqK ?_
  refine Tri.run (G := gm_disk_Read) tyOk mixed ?_
  conv => whnf
  replace h := bind_some h
  obtain ⟨y1, q2, h⟩ := h
  refine PureP.mono (disk_Find_walk d name y1 q2) ?_
  rintro _ rfl
  conv => whnf
  refine Tri.seqK ?_
  refine Tri.seqK ?_
  refine Tri.run (G := gm_disk_Read) tyOk mixed ?_
  conv => whnf
  refine Tri.cond rfl (fun c4 => ?_) (fun c4 => ?_)
  · replace h := if_t c4 h
    refine Tri.seqK ?_
    refine Tri.run (G := gm_disk_Read) tyOk mixed ?_
    conv => whnf
    refine Tri.run (G := gm_disk_Read) tyOk mixed ?_
    conv => whnf
    refine fin_here ?_
    conv => whnf
    obtain rfl := Option.some.inj h
    rfl
  · replace h := if_f c4 h
    refine Tri.run (G := gm_disk_Read) tyOk mixed ?_
    conv => whnf
    refine Tri.seqK ?_
    refine Tri.run (G := gm_disk_Read) tyOk mixed ?_
    conv => whnf
    replace h := need_some h
    obtain ⟨p5, h⟩ := h
    refine ⟨p5, ?_⟩
    conv => whnf
    refine ⟨⟨bs (y1.1.Safe ++ y1.1.Wait), bs_append _ _, ?_⟩⟩
    conv => whnf
    refine Tri.run (G := gm_disk_Read) tyOk mixed ?_
    conv => whnf
    refine fin_here ?_
    conv => whnf
    obtain rfl := Option.some.inj h
    rfl
noncomputable def law03_shown  : Option (Bool) :=
  (disk_New 100).bind fun y1 =>
  (disk_Append y1.1 [102] [97, 98]).bind fun y3 =>
  (disk_Sync y3.1 [102]).bind fun y5 =>
  (disk_Append y5.1 [102] [99, 100]).bind fun y7 =>
  (disk_Crash y7.1 [1]).bind fun y9 =>
  (disk_Read y9 [102]).bind fun y11 =>
  if (decide (y1.2 = 0)) then
    if (decide (y3.2 = 0)) then
      if (decide (y5.2 = 0)) then
        if (decide (y7.2 = 0)) then
          if (decide (y11.2 = 0)) then
            some (decide (y11.1 = [97, 98, 99]))
          else
            some false
        else
          some false
      else
        some false
    else
      some false
  else
    some false
def gm_law03_shown : Gm := ⟨tys, [], [], []⟩
theorem law03_shown_walk  (r : Bool) (h : law03_shown = some r) : PureP Try.prog 11 [] (fun a => a = .v (.bool r)) := by
  unfold law03_shown at h
  refine pureW (G := gm_law03_shown) tyOk Try.func11 rfl (by kernel_rfl) (by simp [Try.f11]) ?_
  refine Tri.seqK ?_
  refine Tri.run (G := gm_law03_shown) tyOk mixed ?_
  conv => whnf
  refine Tri.seqK ?_
  refine Tri.run (G := gm_law03_shown) tyOk mixed ?_
  conv => whnf
  replace h := bind_some h
  obtain ⟨y1, q2, h⟩ := h
  refine PureP.mono (disk_New_walk 100 y1 q2) ?_
  rintro _ rfl
  conv => whnf
  refine Tri.seqK ?_
  refine Tri.run (G := gm_law03_shown) tyOk mixed ?_
  conv => whnf
  replace h := bind_some h
  obtain ⟨y3, q4, h⟩ := h
  refine PureP.mono (disk_Append_walk y1.1 [102] [97, 98] y3 q4) ?_
  rintro _ rfl
  conv => whnf
  refine Tri.seqK ?_
  refine Tri.run (G := gm_law03_shown) tyOk mixed ?_
  conv => whnf
  replace h := bind_some h
  obtain ⟨y5, q6, h⟩ := h
  refine PureP.mono (disk_Sync_walk y3.1 [102] y5 q6) ?_
  rintro _ rfl
  conv => whnf
  refine Tri.seqK ?_
  refine Tri.run (G := gm_law03_shown) tyOk mixed ?_
  conv => whnf
  replace h := bind_some h
  obtain ⟨y7, q8, h⟩ := h
  refine PureP.mono (disk_Append_walk y5.1 [102] [99, 100] y7 q8) ?_
  rintro _ rfl
  conv => whnf
  refine Tri.seqK ?_
  refine Tri.run (G := gm_law03_shown) tyOk mixed ?_
  conv => whnf
  refine ⟨⟨List.map (encI .i64) [1], rfl, ?_⟩⟩
  conv => whnf
  refine ⟨rfl, ?_⟩
  conv => whnf
  replace h := bind_some h
  obtain ⟨y9, q10, h⟩ := h
  refine PureP.mono (disk_Crash_walk y7.1 [1] y9 q10) ?_
  rintro _ rfl
  conv => whnf
  replace h := bind_some h
  obtain ⟨y11, q12, h⟩ := h
  refine PureP.mono (disk_Read_walk y9 [102] y11 q12) ?_
  rintro _ rfl
  conv => whnf
  refine Tri.seqK ?_
  refine Tri.run (G := gm_law03_shown) tyOk mixed ?_
  conv => whnf
  refine cond_mk (fun c13 => ?_) (fun c13 => ?_)
  · replace h := if_t c13 h
    conv => whnf
    refine cond_mk (fun c14 => ?_) (fun c14 => ?_)
    · replace h := if_t c14 h
      conv => whnf
      refine cond_mk (fun c15 => ?_) (fun c15 => ?_)
      · replace h := if_t c15 h
        conv => whnf
        refine cond_mk (fun c16 => ?_) (fun c16 => ?_)
        · replace h := if_t c16 h
          conv => whnf
          refine cond_mk (fun c17 => ?_) (fun c17 => ?_)
          · replace h := if_t c17 h
            conv => whnf
            refine ⟨⟨(decide (y11.1 = [97, 98, 99])), bs_eq _ _, ?_⟩⟩
            conv => whnf
            refine Tri.run (G := gm_law03_shown) tyOk mixed ?_
            conv => whnf
            refine fin_here ?_
            conv => whnf
            obtain rfl := Option.some.inj h
            rfl
          · replace h := if_f c17 h
            conv => whnf
            refine Tri.run (G := gm_law03_shown) tyOk mixed ?_
            conv => whnf
            refine fin_here ?_
            conv => whnf
            obtain rfl := Option.some.inj h
            rfl
        · replace h := if_f c16 h
          conv => whnf
          refine Tri.run (G := gm_law03_shown) tyOk mixed ?_
          conv => whnf
          refine fin_here ?_
          conv => whnf
          obtain rfl := Option.some.inj h
          rfl
      · replace h := if_f c15 h
        conv => whnf
        refine Tri.run (G := gm_law03_shown) tyOk mixed ?_
        conv => whnf
        refine fin_here ?_
        conv => whnf
        obtain rfl := Option.some.inj h
        rfl
    · replace h := if_f c14 h
      conv => whnf
      refine Tri.run (G := gm_law03_shown) tyOk mixed ?_
      conv => whnf
      refine fin_here ?_
      conv => whnf
      obtain rfl := Option.some.inj h
      rfl
  · replace h := if_f c13 h
    conv => whnf
    refine Tri.run (G := gm_law03_shown) tyOk mixed ?_
    conv => whnf
    refine fin_here ?_
    conv => whnf
    obtain rfl := Option.some.inj h
    rfl
noncomputable def ref03_at_l2 (d : Disk) (name : Str) (a52 : Int) : Option ((Int) ⊕ ((Int) ⊕ (Unit))) :=
  if (decide (a52 < (d.Files.length : Int))) then
    (ix d.Files a52).bind fun x65 =>
    if (decide (x65.Name = name)) then
      some (.inr (.inl a52))
    else
      some (.inl (IntKind.i64.wrap (a52 + 1)))
  else
    some (.inr (.inr ()))
noncomputable def ref03_at (d : Disk) (name : Str) : Option (Int) :=
  (loop (fun (s57 : Int) => ref03_at_l2 d name s57) (0 : Int)).bind fun (y53 : (Int) ⊕ (Unit)) =>
  match y53 with
  | (.inl v55) =>
    some v55
  | (.inr v56) =>
    some ((-1) : Int)
def gm_ref03_at : Gm := ⟨tys, [], [], []⟩
theorem ref03_at_walk (d : Disk) (name : Str) (r : Int) (h : ref03_at d name = some r) : PureP Try.prog 38 [.agg [.sl (List.map encFile d.Files), .v (.int .i64 d.Room), .v (.int .i64 d.Fuse), .v (.bool d.Off)], .v (.string (bs name))] (fun a => a = .v (.int .i64 r)) := by
  unfold ref03_at at h
  refine pureW (G := gm_ref03_at) tyOk Try.func38 rfl (by kernel_rfl) (by simp [Try.f38]) ?_
  refine Tri.seqK ?_
  refine Tri.run (G := gm_ref03_at) tyOk mixed ?_
  conv => whnf
  refine Tri.seqK ?_
  refine Tri.seqK ?_
  refine Tri.run (G := gm_ref03_at) tyOk mixed ?_
  conv => whnf
  refine Tri.block ?_
  replace h := bind_some h
  obtain ⟨y53, q54, h⟩ := h
  refine Tri.cut (fun ex S' => (∃ v55 : Int, y53 = (.inl v55) ∧ ex = .ret ∧ Weak S' ⟨22, 0, ofRegs [(4, .v (.int .i64 v55))], []⟩) ∨ (∃ v56 : Unit, y53 = (.inr v56) ∧ ex = (.exit 0) ∧ Weak S' ⟨22, 0, ofRegs [], []⟩)) ?_ ?_
  · refine Tri.loopF (fun (s57 : Int) => (⟨22, 0, ofRegs [(1, .v (.string (bs name))), (2, .ptr 0 0), (5, .v (.int .i64 s57))], [.var 24 [.sl (List.map encFile d.Files), .v (.int .i64 d.Room), .v (.int .i64 d.Fuse), .v (.bool d.Off)]]⟩ : St)) q54 (weak_fin _ rfl rfl rfl (.cons (.same rfl) (LeH.rest)) (.cons (.one (.same rfl)) (.cons (.one (.same rfl)) (.cons (.one (.same rfl)) (.nil)))) rfl rfl) ?_
    rintro a52 v58 hv r59
    have hv : ref03_at_l2 d name a52 = some v58 := hv
    unfold ref03_at_l2 at hv
    refine Tri.seqK ?_
    refine Tri.seqK ?_
    refine Tri.run (G := gm_ref03_at) tyOk mixed ?_
    conv => whnf
    refine ⟨⟨(d.Files.length : Int), (len_map _ _).symm, ?_⟩⟩
    conv => whnf
    refine Tri.cond rfl (fun c61 => ?_) (fun c61 => ?_)
    · replace hv := if_t c61 hv
      refine Tri.run (G := gm_ref03_at) tyOk mixed ?_
      conv => whnf
      refine Tri.seqK ?_
      refine Tri.block ?_
      refine Tri.seqK ?_
      refine Tri.run (G := gm_ref03_at) tyOk mixed ?_
      conv => whnf
      replace hv := bind_some hv
      obtain ⟨x65, q66, hv⟩ := hv
      refine ⟨(ix_some q66).1, ?_⟩
      conv => whnf
      refine ⟨⟨_, map_get encFile (ix_some q66).2, ?_⟩⟩
      conv => whnf
      refine ⟨rfl, ?_⟩
      conv => whnf
      refine ⟨⟨(decide (x65.Name = name)), bs_eq _ _, ?_⟩⟩
      conv => whnf
      refine Tri.cond rfl (fun c67 => ?_) (fun c67 => ?_)
      · replace hv := if_t c67 hv
        refine Tri.seqK ?_
        refine Tri.run (G := gm_ref03_at) tyOk mixed ?_
        conv => whnf
        refine Tri.run (G := gm_ref03_at) tyOk mixed ?_
        conv => whnf
        obtain rfl := Option.some.inj hv
        obtain rfl := r59 _ rfl
        exact Or.inl ⟨_, rfl, rfl, weak_fin _ rfl rfl rfl (LeH.rest) (.cons (.one (.same rfl)) (.nil)) rfl rfl⟩
      · replace hv := if_f c67 hv
        refine Tri.run (G := gm_ref03_at) tyOk mixed ?_
        conv => whnf
        refine Tri.run (G := gm_ref03_at) tyOk mixed ?_
        conv => whnf
        obtain rfl := Option.some.inj hv
        exact ⟨_, rfl, weak_fin _ rfl rfl rfl (.cons (.same rfl) (LeH.rest)) (.cons (.one (.same rfl)) (.cons (.one (.same rfl)) (.cons (.one (.same rfl)) (.nil)))) rfl rfl⟩
    · replace hv := if_f c61 hv
      refine Tri.run (G := gm_ref03_at) tyOk mixed ?_
      conv => whnf
      obtain rfl := Option.some.inj hv
      obtain rfl := r59 _ rfl
      exact Or.inr (⟨_, rfl, rfl, weak_fin _ rfl rfl rfl (LeH.rest) (.nil) rfl rfl⟩)
  · rintro ex S' (⟨v55, rfl, rfl, w68⟩ | ⟨v56, rfl, rfl, w68⟩)
    · dsimp only at h
      conv => whnf
      refine fin_pre w68 ?_
      conv => whnf
      obtain rfl := Option.some.inj h
      rfl
    · dsimp only at h
      conv => whnf
      refine Tri.weak w68 ?_
      refine Tri.seqK ?_
      refine Tri.run (G := gm_ref03_at) tyOk mixed ?_
      conv => whnf
      refine Tri.run (G := gm_ref03_at) tyOk mixed ?_
      conv => whnf
      refine fin_here ?_
      conv => whnf
      obtain rfl := Option.some.inj h
      rfl
noncomputable def ref03_with (d : Disk) (i : Int) (f : File) : Option (Disk) :=
  need ((([] : List File).length + d.Files.length) * 48 ≤ 140737488355328) <|
  (ix (([] : List File) ++ d.Files) i).bind fun x2 =>
  some ({ Files := (List.set (([] : List File) ++ d.Files) (i).toNat f), Room := d.Room, Fuse := d.Fuse, Off := d.Off } : Disk)
def gm_ref03_with : Gm := ⟨tys, [], [], []⟩
theorem ref03_with_walk (d : Disk) (i : Int) (f : File) (r : Disk) (h : ref03_with d i f = some r) : PureP Try.prog 39 [.agg [.sl (List.map encFile d.Files), .v (.int .i64 d.Room), .v (.int .i64 d.Fuse), .v (.bool d.Off)], .v (.int .i64 i), .agg [.v (.string (bs f.Name)), .v (.string (bs f.Safe)), .v (.string (bs f.Wait))]] (fun a => a = .agg [.sl (List.map encFile r.Files), .v (.int .i64 r.Room), .v (.int .i64 r.Fuse), .v (.bool r.Off)]) := by
  unfold ref03_with at h
  refine pureW (G := gm_ref03_with) tyOk Try.func39 rfl (by kernel_rfl) (by simp [Try.f39]) ?_
  refine Tri.seqK ?_
  refine Tri.run (G := gm_ref03_with) tyOk mixed ?_
  conv => whnf
  refine Tri.seqK ?_
  refine Tri.run (G := gm_ref03_with) tyOk mixed ?_
  conv => whnf
  refine ⟨⟨List.map encFile ([] : List File), rfl, ?_⟩⟩
  conv => whnf
  refine ⟨rfl, ?_⟩
  conv => whnf
  refine ⟨map_len (f := encFile) (n := 3) (fun _ => rfl) _, ?_⟩
  conv => whnf
  replace h := need_some h
  obtain ⟨p1, h⟩ := h
  refine ⟨by simp only [List.length_map]; exact p1, ?_⟩
  conv => whnf
  refine ⟨⟨List.map encFile (([] : List File) ++ d.Files), map_app encFile _ _ rfl rfl, ?_⟩⟩
  conv => whnf
  refine Tri.seqK ?_
  refine Tri.run (G := gm_ref03_with) tyOk mixed ?_
  conv => whnf
  replace h := bind_some h
  obtain ⟨x2, q3, h⟩ := h
  refine ⟨⟨rfl, (ix_lt q3).1, by have := ix_lt q3; simp only [List.length_map, List.length_set, List.length_cons, List.length_nil] at *; omega⟩, ?_⟩
  conv => whnf
  refine ⟨rfl, ?_⟩
  conv => whnf
  refine ⟨⟨_, map_get encFile (ix_some q3).2, ?_⟩⟩
  conv => whnf
  refine ⟨Nat.le_of_ble_eq_true rfl, ?_⟩
  conv => whnf
  refine ⟨⟨List.map encFile (List.set (([] : List File) ++ d.Files) (i).toNat f), map_set encFile _ _ _ rfl, ?_⟩⟩
  conv => whnf
  refine Tri.seqK ?_
  refine Tri.run (G := gm_ref03_with) tyOk mixed ?_
  conv => whnf
  refine Tri.seqK ?_
  refine Tri.run (G := gm_ref03_with) tyOk mixed ?_
  conv => whnf
  refine Tri.run (G := gm_ref03_with) tyOk mixed ?_
  conv => whnf
  refine fin_here ?_
  conv => whnf
  refine ⟨by simp, ?_⟩
  conv => whnf
  obtain rfl := Option.some.inj h
  rfl
noncomputable def ref03_Append (d : Disk) (name : Str) (s : Str) : Option (Disk × Int) :=
  if d.Off then
    some (d, 6)
  else
    if ((decide ((name.length : Int) < 1)) || (decide ((name.length : Int) > 16))) then
      some (d, 1)
    else
      (ref03_at d name).bind fun y15 =>
      if (if (decide (y15 < 0)) then ((decide ((d.Files.length : Int) ≥ 64)) || (decide ((s.length : Int) > d.Room))) else (decide ((s.length : Int) > d.Room))) then
        some (d, 5)
      else
        (
          if (decide (y15 ≥ 0)) then
            (ix d.Files y15).bind fun x46 =>
            some (x46.Name, x46.Safe, x46.Wait)
          else
            some (name, [], [])).bind fun (y43 : Str × Str × Str) =>
        if (decide ((IntKind.i64.wrap ((IntKind.i64.wrap ((y43.2.1.length : Int) + (y43.2.2.length : Int))) + (s.length : Int))) > 65536)) then
          some (d, 4)
        else
          (
            if (decide (y15 < 0)) then
              need ((([] : List File).length + d.Files.length) * 48 ≤ 140737488355328) <|
              need (((([] : List File) ++ d.Files).length + 1) * 48 ≤ 140737488355328) <|
              some ((d.Files.length : Int), ((([] : List File) ++ d.Files) ++ [({ Name := y43.1, Safe := y43.2.1, Wait := y43.2.2 } : File)]))
            else
              some (y15, d.Files)).bind fun (y81 : Int × (List File)) =>
          need (0 ≤ (0 : Int) ∧ 0 ≤ (if ((decide (d.Fuse ≥ 0)) && (decide (d.Fuse < (s.length : Int)))) then d.Fuse else (s.length : Int)) ∧ (if ((decide (d.Fuse ≥ 0)) && (decide (d.Fuse < (s.length : Int)))) then d.Fuse else (s.length : Int)) ≤ (s.length : Int)) <|
          need (y43.2.2.length + (cut s 0 (if ((decide (d.Fuse ≥ 0)) && (decide (d.Fuse < (s.length : Int)))) then d.Fuse else (s.length : Int))).length ≤ 9223372036854775807) <|
          (ref03_with ({ Files := y81.2, Room := d.Room, Fuse := d.Fuse, Off := d.Off } : Disk) y81.1 ({ Name := y43.1, Safe := y43.2.1, Wait := (y43.2.2 ++ (cut s 0 (if ((decide (d.Fuse ≥ 0)) && (decide (d.Fuse < (s.length : Int)))) then d.Fuse else (s.length : Int)))) } : File)).bind fun y128 =>
          if (decide ((if ((decide (d.Fuse ≥ 0)) && (decide (d.Fuse < (s.length : Int)))) then d.Fuse else (s.length : Int)) < (s.length : Int))) then
            some (({ Files := y128.Files, Room := (IntKind.i64.wrap (y128.Room - (if ((decide (d.Fuse ≥ 0)) && (decide (d.Fuse < (s.length : Int)))) then d.Fuse else (s.length : Int)))), Fuse := (if (decide (y128.Fuse ≥ 0)) then (IntKind.i64.wrap (y128.Fuse - (if ((decide (d.Fuse ≥ 0)) && (decide (d.Fuse < (s.length : Int)))) then d.Fuse else (s.length : Int)))) else y128.Fuse), Off := true } : Disk), 6)
          else
            some (({ Files := y128.Files, Room := (IntKind.i64.wrap (y128.Room - (if ((decide (d.Fuse ≥ 0)) && (decide (d.Fuse < (s.length : Int)))) then d.Fuse else (s.length : Int)))), Fuse := (if (decide (y128.Fuse ≥ 0)) then (IntKind.i64.wrap (y128.Fuse - (if ((decide (d.Fuse ≥ 0)) && (decide (d.Fuse < (s.length : Int)))) then d.Fuse else (s.length : Int)))) else y128.Fuse), Off := y128.Off } : Disk), 0)
def gm_ref03_Append : Gm := ⟨tys, [], [], []⟩
theorem ref03_Append_walk (d : Disk) (name : Str) (s : Str) (r : Disk × Int) (h : ref03_Append d name s = some r) : PureP Try.prog 13 [.agg [.sl (List.map encFile d.Files), .v (.int .i64 d.Room), .v (.int .i64 d.Fuse), .v (.bool d.Off)], .v (.string (bs name)), .v (.string (bs s))] (fun a => a = .tup [.agg [.sl (List.map encFile r.1.Files), .v (.int .i64 r.1.Room), .v (.int .i64 r.1.Fuse), .v (.bool r.1.Off)], .v (.int .i64 r.2)]) := by
  unfold ref03_Append at h
  refine pureW (G := gm_ref03_Append) tyOk Try.func13 rfl (by kernel_rfl) (by simp [Try.f13]) ?_
  refine Tri.seqK ?_
  refine Tri.run (G := gm_ref03_Append) tyOk mixed ?_
  conv => whnf
  refine Tri.seqK ?_
  refine Tri.seqK ?_
  refine Tri.run (G := gm_ref03_Append) tyOk mixed ?_
  conv => whnf
  refine Tri.cond rfl (fun c2 => ?_) (fun c2 => ?_)
  · replace h := if_t c2 h
    refine Tri.seqK ?_
    refine Tri.run (G := gm_ref03_Append) tyOk mixed ?_
    conv => whnf
    refine Tri.run (G := gm_ref03_Append) tyOk mixed ?_
    conv => whnf
    refine fin_here ?_
    conv => whnf
    obtain rfl := Option.some.inj h
    rfl
  · replace h := if_f c2 h
    refine Tri.run (G := gm_ref03_Append) tyOk mixed ?_
    conv => whnf
    refine Tri.seqK ?_
    refine Tri.seqK ?_
    refine Tri.cut (fun ex S' => ex = .normal ∧ Weak S' ⟨120, 0, ofRegs [(1, .v (.string (bs name))), (2, .v (.string (bs s))), (3, .ptr 0 0), (6, .ptr 1 0), (21, .v (.bool ((decide ((name.length : Int) < 1)) || (decide ((name.length : Int) > 16)))))], [.var 24 [.sl (List.map encFile d.Files), .v (.int .i64 d.Room), .v (.int .i64 d.Fuse), .v (.bool d.Off)], .var 24 [.v (.slice none 0 0), .v (.int .i64 0), .v (.int .i64 0), .v (.bool false)]]⟩) ?_ ?_
    · refine Tri.run (G := gm_ref03_Append) tyOk mixed ?_
      conv => whnf
      refine ⟨⟨(name.length : Int), rfl, ?_⟩⟩
      conv => whnf
      refine cond_mk (fun c12 => ?_) (fun c12 => ?_)
      · replace c12 : (decide ((name.length : Int) < 1)) = true := c12
        conv => whnf
        exact ⟨rfl, weak_fin _ rfl rfl rfl (.cons (.same rfl) (.cons (.same rfl) (LeH.rest))) (.cons (.one (.same rfl)) (.cons (.one (.same rfl)) (.cons (.one (.same rfl)) (.cons (.one (.same rfl)) (.cons (.one (.same (show (.v (.bool true) : AV) = (.v (.bool ((decide ((name.length : Int) < 1)) || (decide ((name.length : Int) > 16)))) : AV) from by simp [c12]))) (.nil)))))) rfl rfl⟩
      · replace c12 : (decide ((name.length : Int) < 1)) = false := c12
        conv => whnf
        refine ⟨⟨(name.length : Int), rfl, ?_⟩⟩
        conv => whnf
        exact ⟨rfl, weak_fin _ rfl rfl rfl (.cons (.same rfl) (.cons (.same rfl) (LeH.rest))) (.cons (.one (.same rfl)) (.cons (.one (.same rfl)) (.cons (.one (.same rfl)) (.cons (.one (.same rfl)) (.cons (.one (.same (show (.v (.bool (decide ((name.length : Int) > 16))) : AV) = (.v (.bool ((decide ((name.length : Int) < 1)) || (decide ((name.length : Int) > 16)))) : AV) from by simp [c12]))) (.nil)))))) rfl rfl⟩
    · rintro ex S' ⟨rfl, w13⟩
      conv => whnf
      refine Tri.weak w13 ?_
      refine Tri.cond rfl (fun c14 => ?_) (fun c14 => ?_)
      · replace h := if_t c14 h
        refine Tri.seqK ?_
        refine Tri.run (G := gm_ref03_Append) tyOk mixed ?_
        conv => whnf
        refine Tri.run (G := gm_ref03_Append) tyOk mixed ?_
        conv => whnf
        refine fin_here ?_
        conv => whnf
        obtain rfl := Option.some.inj h
        rfl
      · replace h := if_f c14 h
        refine Tri.run (G := gm_ref03_Append) tyOk mixed ?_
        conv => whnf
        refine Tri.seqK ?_
        refine Tri.run (G := gm_ref03_Append) tyOk mixed ?_
        conv => whnf
        replace h := bind_some h
        obtain ⟨y15, q16, h⟩ := h
        refine PureP.mono (ref03_at_walk d name y15 q16) ?_
        rintro _ rfl
        conv => whnf
        refine Tri.seqK ?_
        refine Tri.seqK ?_
        refine Tri.cut (fun ex S' => ex = .normal ∧ Weak S' ⟨120, 0, ofRegs [(1, .v (.string (bs name))), (2, .v (.string (bs s))), (3, .ptr 0 0), (6, .ptr 1 0), (8, .v (.int .i64 y15)), (40, .v (.bool (if (decide (y15 < 0)) then ((decide ((d.Files.length : Int) ≥ 64)) || (decide ((s.length : Int) > d.Room))) else (decide ((s.length : Int) > d.Room)))))], [.var 24 [.sl (List.map encFile d.Files), .v (.int .i64 d.Room), .v (.int .i64 d.Fuse), .v (.bool d.Off)], .var 24 [.v (.slice none 0 0), .v (.int .i64 0), .v (.int .i64 0), .v (.bool false)]]⟩) ?_ ?_
        · refine Tri.run (G := gm_ref03_Append) tyOk mixed ?_
          conv => whnf
          refine cond_mk (fun c33 => ?_) (fun c33 => ?_)
          · replace c33 : (decide (y15 < 0)) = true := c33
            conv => whnf
            refine ⟨⟨(d.Files.length : Int), (len_map _ _).symm, ?_⟩⟩
            conv => whnf
            refine cond_mk (fun c34 => ?_) (fun c34 => ?_)
            · replace c34 : (decide ((d.Files.length : Int) ≥ 64)) = true := c34
              conv => whnf
              exact ⟨rfl, weak_fin _ rfl rfl rfl (.cons (.same rfl) (.cons (.same rfl) (LeH.rest))) (.cons (.one (.same rfl)) (.cons (.one (.same rfl)) (.cons (.one (.same rfl)) (.cons (.one (.same rfl)) (.cons (.one (.same rfl)) (.cons (.one (.same (show (.v (.bool true) : AV) = (.v (.bool (if (decide (y15 < 0)) then ((decide ((d.Files.length : Int) ≥ 64)) || (decide ((s.length : Int) > d.Room))) else (decide ((s.length : Int) > d.Room)))) : AV) from by simp [c33, c34]))) (.nil))))))) rfl rfl⟩
            · replace c34 : (decide ((d.Files.length : Int) ≥ 64)) = false := c34
              conv => whnf
              refine ⟨⟨(s.length : Int), rfl, ?_⟩⟩
              conv => whnf
              exact ⟨rfl, weak_fin _ rfl rfl rfl (.cons (.same rfl) (.cons (.same rfl) (LeH.rest))) (.cons (.one (.same rfl)) (.cons (.one (.same rfl)) (.cons (.one (.same rfl)) (.cons (.one (.same rfl)) (.cons (.one (.same rfl)) (.cons (.one (.same (show (.v (.bool (decide ((s.length : Int) > d.Room))) : AV) = (.v (.bool (if (decide (y15 < 0)) then ((decide ((d.Files.length : Int) ≥ 64)) || (decide ((s.length : Int) > d.Room))) else (decide ((s.length : Int) > d.Room)))) : AV) from by simp [c33, c34]))) (.nil))))))) rfl rfl⟩
          · replace c33 : (decide (y15 < 0)) = false := c33
            conv => whnf
            refine ⟨⟨(s.length : Int), rfl, ?_⟩⟩
            conv => whnf
            exact ⟨rfl, weak_fin _ rfl rfl rfl (.cons (.same rfl) (.cons (.same rfl) (LeH.rest))) (.cons (.one (.same rfl)) (.cons (.one (.same rfl)) (.cons (.one (.same rfl)) (.cons (.one (.same rfl)) (.cons (.one (.same rfl)) (.cons (.one (.same (show (.v (.bool (decide ((s.length : Int) > d.Room))) : AV) = (.v (.bool (if (decide (y15 < 0)) then ((decide ((d.Files.length : Int) ≥ 64)) || (decide ((s.length : Int) > d.Room))) else (decide ((s.length : Int) > d.Room)))) : AV) from by simp [c33]))) (.nil))))))) rfl rfl⟩
        · rintro ex S' ⟨rfl, w35⟩
          conv => whnf
          refine Tri.weak w35 ?_
          refine Tri.cond rfl (fun c36 => ?_) (fun c36 => ?_)
          · replace h := if_t c36 h
            refine Tri.seqK ?_
            refine Tri.run (G := gm_ref03_Append) tyOk mixed ?_
            conv => whnf
            refine Tri.run (G := gm_ref03_Append) tyOk mixed ?_
            conv => whnf
            refine fin_here ?_
            conv => whnf
            obtain rfl := Option.some.inj h
            rfl
          · replace h := if_f c36 h
            refine Tri.run (G := gm_ref03_Append) tyOk mixed ?_
            conv => whnf
            refine Tri.seqK ?_
            refine Tri.run (G := gm_ref03_Append) tyOk mixed ?_
            conv => whnf
            refine Tri.seqK ?_
            replace h := bind_some h
            obtain ⟨y43, q44, h⟩ := h
            refine Tri.cut (fun ex S' => ex = .normal ∧ Weak S' ⟨120, 0, ofRegs [(2, .v (.string (bs s))), (3, .ptr 0 0), (6, .ptr 1 0), (8, .v (.int .i64 y15)), (9, .ptr 2 0)], [.var 24 [.sl (List.map encFile d.Files), .v (.int .i64 d.Room), .v (.int .i64 d.Fuse), .v (.bool d.Off)], .var 24 [.v (.slice none 0 0), .v (.int .i64 0), .v (.int .i64 0), .v (.bool false)], .var 29 [.v (.string (bs y43.1)), .v (.string (bs y43.2.1)), .v (.string (bs y43.2.2))]]⟩) ?_ ?_
            · refine Tri.seqK ?_
              refine Tri.run (G := gm_ref03_Append) tyOk mixed ?_
              conv => whnf
              refine Tri.cond rfl (fun c45 => ?_) (fun c45 => ?_)
              · replace q44 := if_t c45 q44
                refine Tri.run (G := gm_ref03_Append) tyOk mixed ?_
                conv => whnf
                replace q44 := bind_some q44
                obtain ⟨x46, q47, q44⟩ := q44
                refine ⟨(ix_some q47).1, ?_⟩
                conv => whnf
                refine ⟨⟨_, map_get encFile (ix_some q47).2, ?_⟩⟩
                conv => whnf
                refine ⟨rfl, ?_⟩
                conv => whnf
                obtain rfl := Option.some.inj q44
                exact ⟨rfl, weak_fin _ rfl rfl rfl (.cons (.same rfl) (.cons (.same rfl) (.cons (.same rfl) (LeH.rest)))) (.cons (.one (.same rfl)) (.cons (.one (.same rfl)) (.cons (.one (.same rfl)) (.cons (.one (.same rfl)) (.cons (.one (.same rfl)) (.nil)))))) rfl rfl⟩
              · replace q44 := if_f c45 q44
                refine Tri.run (G := gm_ref03_Append) tyOk mixed ?_
                conv => whnf
                obtain rfl := Option.some.inj q44
                exact ⟨rfl, weak_fin _ rfl rfl rfl (.cons (.same rfl) (.cons (.same rfl) (.cons (.same rfl) (LeH.rest)))) (.cons (.one (.same rfl)) (.cons (.one (.same rfl)) (.cons (.one (.same rfl)) (.cons (.one (.same rfl)) (.cons (.one (.same rfl)) (.nil)))))) rfl rfl⟩
            · rintro ex S' ⟨rfl, w48⟩
              conv => whnf
              refine Tri.weak w48 ?_
              refine Tri.seqK ?_
              refine Tri.seqK ?_
              refine Tri.run (G := gm_ref03_Append) tyOk mixed ?_
              conv => whnf
              refine ⟨⟨(y43.2.1.length : Int), rfl, ?_⟩⟩
              conv => whnf
              refine ⟨⟨(y43.2.2.length : Int), rfl, ?_⟩⟩
              conv => whnf
              refine ⟨⟨(s.length : Int), rfl, ?_⟩⟩
              conv => whnf
              refine Tri.cond rfl (fun c50 => ?_) (fun c50 => ?_)
              · replace h := if_t c50 h
                refine Tri.seqK ?_
                refine Tri.run (G := gm_ref03_Append) tyOk mixed ?_
                conv => whnf
                refine Tri.run (G := gm_ref03_Append) tyOk mixed ?_
                conv => whnf
                refine fin_here ?_
                conv => whnf
                obtain rfl := Option.some.inj h
                rfl
              · replace h := if_f c50 h
                refine Tri.run (G := gm_ref03_Append) tyOk mixed ?_
                conv => whnf
                refine Tri.seqK ?_
                replace h := bind_some h
                obtain ⟨y81, q82, h⟩ := h
                refine Tri.cut (fun ex S' => ex = .normal ∧ Weak S' ⟨120, 0, ofRegs [(2, .v (.string (bs s))), (3, .ptr 0 0), (6, .ptr 1 0), (8, .v (.int .i64 y81.1)), (9, .ptr 2 0)], [.var 24 [.sl (List.map encFile y81.2), .v (.int .i64 d.Room), .v (.int .i64 d.Fuse), .v (.bool d.Off)], .var 24 [.v (.slice none 0 0), .v (.int .i64 0), .v (.int .i64 0), .v (.bool false)], .var 29 [.v (.string (bs y43.1)), .v (.string (bs y43.2.1)), .v (.string (bs y43.2.2))]]⟩) ?_ ?_
                · refine Tri.seqK ?_
                  refine Tri.run (G := gm_ref03_Append) tyOk mixed ?_
                  conv => whnf
                  refine Tri.cond rfl (fun c83 => ?_) (fun c83 => ?_)
                  · replace q82 := if_t c83 q82
                    refine Tri.seqK ?_
                    refine Tri.run (G := gm_ref03_Append) tyOk mixed ?_
                    conv => whnf
                    refine ⟨⟨(d.Files.length : Int), (len_map _ _).symm, ?_⟩⟩
                    conv => whnf
                    refine Tri.run (G := gm_ref03_Append) tyOk mixed ?_
                    conv => whnf
                    replace q82 := need_some q82
                    obtain ⟨p96, q82⟩ := q82
                    replace q82 := need_some q82
                    obtain ⟨p97, q82⟩ := q82
                    refine Draw.many 8 (.take 1 (.take 2 (.take 4 (.alt 0 (.alt 3 (.alt 5 (.alt 6 (.take 7 (.fin)) (.nil)) (.nil)) (.alt 5 (.alt 3 (.alt 6 (.take 7 (.fin)) (.nil)) (.nil)) (.nil))) (.alt 5 (.alt 0 (.alt 3 (.alt 6 (.take 7 (.fin)) (.nil)) (.nil)) (.nil)) (.nil)))))) [] (⟨120, 0, ofRegs [(2, .v (.string (bs s))), (3, .ptr 0 0), (6, .ptr 1 0), (8, .v (.int .i64 (d.Files.length : Int))), (9, .ptr 2 0), (74, .sl (List.map encFile ((([] : List File) ++ d.Files) ++ [({ Name := y43.1, Safe := y43.2.1, Wait := y43.2.2 } : File)]))), (75, .ptr 0 0)], [.var 24 [.sl (List.map encFile d.Files), .v (.int .i64 d.Room), .v (.int .i64 d.Fuse), .v (.bool d.Off)], .var 24 [.v (.slice none 0 0), .v (.int .i64 0), .v (.int .i64 0), .v (.bool false)], .var 29 [.v (.string (bs y43.1)), .v (.string (bs y43.2.1)), .v (.string (bs y43.2.2))]]⟩) (by kernel_rfl) ?_ ?_
                    · conv => whnf
                      refine ⟨?_, ?_⟩
                      · conv => whnf
                        refine ⟨⟨List.map encFile ([] : List File), rfl, ?_⟩⟩
                        conv => whnf
                        refine ⟨?_, ?_⟩
                        · conv => whnf
                          refine ⟨rfl, ?_⟩
                          conv => whnf
                          refine ⟨map_len (f := encFile) (n := 3) (fun _ => rfl) _, ?_⟩
                          conv => whnf
                          refine ⟨by simp only [List.length_map]; exact p96, ?_⟩
                          conv => whnf
                          refine ⟨⟨List.map encFile (([] : List File) ++ d.Files), map_app encFile _ _ rfl rfl, ?_⟩⟩
                          conv => whnf
                          refine ⟨?_, ?_⟩
                          · conv => whnf
                            refine ⟨⟨List.map encFile [({ Name := y43.1, Safe := y43.2.1, Wait := y43.2.2 } : File)], rfl, ?_⟩⟩
                            conv => whnf
                            refine ⟨?_, ?_⟩
                            · conv => whnf
                              refine ⟨rfl, ?_⟩
                              conv => whnf
                              refine ⟨rfl, ?_⟩
                              conv => whnf
                              refine ⟨by simp only [List.length_map]; exact p97, ?_⟩
                              conv => whnf
                              refine ⟨⟨List.map encFile ((([] : List File) ++ d.Files) ++ [({ Name := y43.1, Safe := y43.2.1, Wait := y43.2.2 } : File)]), map_app encFile _ _ rfl rfl, ?_⟩⟩
                              conv => whnf
                              exact Weak.trans (weak_freeze 3 rfl) (weak_fin _ rfl rfl rfl (.cons (.same rfl) (.cons (.same rfl) (.cons (.same rfl) (LeH.rest)))) (.cons (.one (.same rfl)) (.cons (.one (.same rfl)) (.cons (.one (.same rfl)) (.cons (.one (.same rfl)) (.cons (.one (.same rfl)) (.cons (.one (.frz rfl rfl)) (.cons (.one (.same rfl)) (.nil)))))))) rfl rfl)
                            · conv => whnf
                              trivial
                          · conv => whnf
                            trivial
                        · conv => whnf
                          refine ⟨?_, ?_⟩
                          · conv => whnf
                            refine ⟨⟨List.map encFile [({ Name := y43.1, Safe := y43.2.1, Wait := y43.2.2 } : File)], rfl, ?_⟩⟩
                            conv => whnf
                            refine ⟨?_, ?_⟩
                            · conv => whnf
                              refine ⟨rfl, ?_⟩
                              conv => whnf
                              refine ⟨map_len (f := encFile) (n := 3) (fun _ => rfl) _, ?_⟩
                              conv => whnf
                              refine ⟨by simp only [List.length_map]; exact p96, ?_⟩
                              conv => whnf
                              refine ⟨⟨List.map encFile (([] : List File) ++ d.Files), map_app encFile _ _ rfl rfl, ?_⟩⟩
                              conv => whnf
                              refine ⟨?_, ?_⟩
                              · conv => whnf
                                refine ⟨rfl, ?_⟩
                                conv => whnf
                                refine ⟨rfl, ?_⟩
                                conv => whnf
                                refine ⟨by simp only [List.length_map]; exact p97, ?_⟩
                                conv => whnf
                                refine ⟨⟨List.map encFile ((([] : List File) ++ d.Files) ++ [({ Name := y43.1, Safe := y43.2.1, Wait := y43.2.2 } : File)]), map_app encFile _ _ rfl rfl, ?_⟩⟩
                                conv => whnf
                                exact Weak.trans (weak_freeze 3 rfl) (weak_fin _ rfl rfl rfl (.cons (.same rfl) (.cons (.same rfl) (.cons (.same rfl) (LeH.rest)))) (.cons (.one (.same rfl)) (.cons (.one (.same rfl)) (.cons (.one (.same rfl)) (.cons (.one (.same rfl)) (.cons (.one (.same rfl)) (.cons (.one (.frz rfl rfl)) (.cons (.one (.same rfl)) (.nil)))))))) rfl rfl)
                              · conv => whnf
                                trivial
                            · conv => whnf
                              trivial
                          · conv => whnf
                            trivial
                      · conv => whnf
                        refine ⟨?_, ?_⟩
                        · conv => whnf
                          refine ⟨⟨List.map encFile [({ Name := y43.1, Safe := y43.2.1, Wait := y43.2.2 } : File)], rfl, ?_⟩⟩
                          conv => whnf
                          refine ⟨?_, ?_⟩
                          · conv => whnf
                            refine ⟨⟨List.map encFile ([] : List File), rfl, ?_⟩⟩
                            conv => whnf
                            refine ⟨?_, ?_⟩
                            · conv => whnf
                              refine ⟨rfl, ?_⟩
                              conv => whnf
                              refine ⟨map_len (f := encFile) (n := 3) (fun _ => rfl) _, ?_⟩
                              conv => whnf
                              refine ⟨by simp only [List.length_map]; exact p96, ?_⟩
                              conv => whnf
                              refine ⟨⟨List.map encFile (([] : List File) ++ d.Files), map_app encFile _ _ rfl rfl, ?_⟩⟩
                              conv => whnf
                              refine ⟨?_, ?_⟩
                              · conv => whnf
                                refine ⟨rfl, ?_⟩
                                conv => whnf
                                refine ⟨rfl, ?_⟩
                                conv => whnf
                                refine ⟨by simp only [List.length_map]; exact p97, ?_⟩
                                conv => whnf
                                refine ⟨⟨List.map encFile ((([] : List File) ++ d.Files) ++ [({ Name := y43.1, Safe := y43.2.1, Wait := y43.2.2 } : File)]), map_app encFile _ _ rfl rfl, ?_⟩⟩
                                conv => whnf
                                exact Weak.trans (weak_freeze 4 rfl) (weak_fin _ rfl rfl rfl (.cons (.same rfl) (.cons (.same rfl) (.cons (.same rfl) (LeH.rest)))) (.cons (.one (.same rfl)) (.cons (.one (.same rfl)) (.cons (.one (.same rfl)) (.cons (.one (.same rfl)) (.cons (.one (.same rfl)) (.cons (.one (.frz rfl rfl)) (.cons (.one (.same rfl)) (.nil)))))))) rfl rfl)
                              · conv => whnf
                                trivial
                            · conv => whnf
                              trivial
                          · conv => whnf
                            trivial
                        · conv => whnf
                          trivial
                    · conv => whnf
                      obtain rfl := Option.some.inj q82
                      exact ⟨rfl, weak_fin _ rfl rfl rfl (.cons (.same rfl) (.cons (.same rfl) (.cons (.same rfl) (LeH.rest)))) (.cons (.one (.same rfl)) (.cons (.one (.same rfl)) (.cons (.one (.same rfl)) (.cons (.one (.same rfl)) (.cons (.one (.same rfl)) (.nil)))))) rfl rfl⟩
                  · replace q82 := if_f c83 q82
                    refine Tri.run (G := gm_ref03_Append) tyOk mixed ?_
                    conv => whnf
                    obtain rfl := Option.some.inj q82
                    exact ⟨rfl, weak_fin _ rfl rfl rfl (.cons (.same rfl) (.cons (.same rfl) (.cons (.same rfl) (LeH.rest)))) (.cons (.one (.same rfl)) (.cons (.one (.same rfl)) (.cons (.one (.same rfl)) (.cons (.one (.same rfl)) (.cons (.one (.same rfl)) (.nil)))))) rfl rfl⟩
                · rintro ex S' ⟨rfl, w98⟩
                  conv => whnf
                  refine Tri.weak w98 ?_
                  refine Tri.seqK ?_
                  refine Tri.run (G := gm_ref03_Append) tyOk mixed ?_
                  conv => whnf
                  refine ⟨⟨(s.length : Int), rfl, ?_⟩⟩
                  conv => whnf
                  refine Tri.seqK ?_
                  refine Tri.cut (fun ex S' => ex = .normal ∧ Weak S' ⟨120, 0, ofRegs [(2, .v (.string (bs s))), (3, .ptr 0 0), (6, .ptr 1 0), (8, .v (.int .i64 y81.1)), (9, .ptr 2 0), (10, .v (.int .i64 (if ((decide (d.Fuse ≥ 0)) && (decide (d.Fuse < (s.length : Int)))) then d.Fuse else (s.length : Int))))], [.var 24 [.sl (List.map encFile y81.2), .v (.int .i64 d.Room), .v (.int .i64 d.Fuse), .v (.bool d.Off)], .var 24 [.v (.slice none 0 0), .v (.int .i64 0), .v (.int .i64 0), .v (.bool false)], .var 29 [.v (.string (bs y43.1)), .v (.string (bs y43.2.1)), .v (.string (bs y43.2.2))]]⟩) ?_ ?_
                  · refine Tri.seqK ?_
                    refine Tri.cut (fun ex S' => ex = .normal ∧ Weak S' ⟨120, 0, ofRegs [(2, .v (.string (bs s))), (3, .ptr 0 0), (6, .ptr 1 0), (8, .v (.int .i64 y81.1)), (9, .ptr 2 0), (10, .v (.int .i64 (s.length : Int))), (86, .v (.bool ((decide (d.Fuse ≥ 0)) && (decide (d.Fuse < (s.length : Int))))))], [.var 24 [.sl (List.map encFile y81.2), .v (.int .i64 d.Room), .v (.int .i64 d.Fuse), .v (.bool d.Off)], .var 24 [.v (.slice none 0 0), .v (.int .i64 0), .v (.int .i64 0), .v (.bool false)], .var 29 [.v (.string (bs y43.1)), .v (.string (bs y43.2.1)), .v (.string (bs y43.2.2))]]⟩) ?_ ?_
                    · refine Tri.run (G := gm_ref03_Append) tyOk mixed ?_
                      conv => whnf
                      refine cond_mk (fun c120 => ?_) (fun c120 => ?_)
                      · replace c120 : (decide (d.Fuse ≥ 0)) = true := c120
                        conv => whnf
                        exact ⟨rfl, weak_fin _ rfl rfl rfl (.cons (.same rfl) (.cons (.same rfl) (.cons (.same rfl) (LeH.rest)))) (.cons (.one (.same rfl)) (.cons (.one (.same rfl)) (.cons (.one (.same rfl)) (.cons (.one (.same rfl)) (.cons (.one (.same rfl)) (.cons (.one (.same rfl)) (.cons (.one (.same (show (.v (.bool (decide (d.Fuse < (s.length : Int)))) : AV) = (.v (.bool ((decide (d.Fuse ≥ 0)) && (decide (d.Fuse < (s.length : Int))))) : AV) from by simp [c120]))) (.nil)))))))) rfl rfl⟩
                      · replace c120 : (decide (d.Fuse ≥ 0)) = false := c120
                        conv => whnf
                        exact ⟨rfl, weak_fin _ rfl rfl rfl (.cons (.same rfl) (.cons (.same rfl) (.cons (.same rfl) (LeH.rest)))) (.cons (.one (.same rfl)) (.cons (.one (.same rfl)) (.cons (.one (.same rfl)) (.cons (.one (.same rfl)) (.cons (.one (.same rfl)) (.cons (.one (.same rfl)) (.cons (.one (.same (show (.v (.bool false) : AV) = (.v (.bool ((decide (d.Fuse ≥ 0)) && (decide (d.Fuse < (s.length : Int))))) : AV) from by simp [c120]))) (.nil)))))))) rfl rfl⟩
                    · rintro ex S' ⟨rfl, w121⟩
                      conv => whnf
                      refine Tri.weak w121 ?_
                      refine Tri.cond rfl (fun c122 => ?_) (fun c122 => ?_)
                      · replace c122 : ((decide (d.Fuse ≥ 0)) && (decide (d.Fuse < (s.length : Int)))) = true := c122
                        refine Tri.run (G := gm_ref03_Append) tyOk mixed ?_
                        conv => whnf
                        exact ⟨rfl, weak_fin _ rfl rfl rfl (.cons (.same rfl) (.cons (.same rfl) (.cons (.same rfl) (LeH.rest)))) (.cons (.one (.same rfl)) (.cons (.one (.same rfl)) (.cons (.one (.same rfl)) (.cons (.one (.same rfl)) (.cons (.one (.same rfl)) (.cons (.one (.same (show (.v (.int .i64 d.Fuse) : AV) = (.v (.int .i64 (if ((decide (d.Fuse ≥ 0)) && (decide (d.Fuse < (s.length : Int)))) then d.Fuse else (s.length : Int))) : AV) from by simp [c122]))) (.nil))))))) rfl rfl⟩
                      · replace c122 : ((decide (d.Fuse ≥ 0)) && (decide (d.Fuse < (s.length : Int)))) = false := c122
                        refine Tri.run (G := gm_ref03_Append) tyOk mixed ?_
                        conv => whnf
                        exact ⟨rfl, weak_fin _ rfl rfl rfl (.cons (.same rfl) (.cons (.same rfl) (.cons (.same rfl) (LeH.rest)))) (.cons (.one (.same rfl)) (.cons (.one (.same rfl)) (.cons (.one (.same rfl)) (.cons (.one (.same rfl)) (.cons (.one (.same rfl)) (.cons (.one (.same (show (.v (.int .i64 (s.length : Int)) : AV) = (.v (.int .i64 (if ((decide (d.Fuse ≥ 0)) && (decide (d.Fuse < (s.length : Int)))) then d.Fuse else (s.length : Int))) : AV) from by simp [c122]))) (.nil))))))) rfl rfl⟩
                  · rintro ex S' ⟨rfl, w123⟩
                    conv => whnf
                    refine Tri.weak w123 ?_
                    refine Tri.seqK ?_
                    refine Tri.run (G := gm_ref03_Append) tyOk mixed ?_
                    conv => whnf
                    refine Draw.one 7 (.take 0 (.take 1 (.take 2 (.take 3 (.take 4 (.take 5 (.take 6 (.fin)))))))) [] (by kernel_rfl) ?_
                    conv => whnf
                    replace h := need_some h
                    obtain ⟨p126, h⟩ := h
                    refine ⟨p126, ?_⟩
                    conv => whnf
                    refine ⟨⟨bs (cut s 0 (if ((decide (d.Fuse ≥ 0)) && (decide (d.Fuse < (s.length : Int)))) then d.Fuse else (s.length : Int))), bs_cut _ _ _, ?_⟩⟩
                    conv => whnf
                    replace h := need_some h
                    obtain ⟨p127, h⟩ := h
                    refine ⟨p127, ?_⟩
                    conv => whnf
                    refine ⟨⟨bs (y43.2.2 ++ (cut s 0 (if ((decide (d.Fuse ≥ 0)) && (decide (d.Fuse < (s.length : Int)))) then d.Fuse else (s.length : Int)))), bs_append _ _, ?_⟩⟩
                    conv => whnf
                    refine Tri.seqK ?_
                    refine Tri.run (G := gm_ref03_Append) tyOk mixed ?_
                    conv => whnf
                    replace h := bind_some h
                    obtain ⟨y128, q129, h⟩ := h
                    refine PureP.mono (ref03_with_walk ({ Files := y81.2, Room := d.Room, Fuse := d.Fuse, Off := d.Off } : Disk) y81.1 ({ Name := y43.1, Safe := y43.2.1, Wait := (y43.2.2 ++ (cut s 0 (if ((decide (d.Fuse ≥ 0)) && (decide (d.Fuse < (s.length : Int)))) then d.Fuse else (s.length : Int)))) } : File) y128 q129) ?_
                    rintro _ rfl
                    conv => whnf
                    refine Tri.seqK ?_
                    refine Tri.run (G := gm_ref03_Append) tyOk mixed ?_
                    conv => whnf
                    refine Tri.seqK ?_
                    refine Tri.cut (fun ex S' => ex = .normal ∧ Weak S' ⟨120, 0, ofRegs [(2, .v (.string (bs s))), (3, .ptr 0 0), (6, .ptr 1 0), (10, .v (.int .i64 (if ((decide (d.Fuse ≥ 0)) && (decide (d.Fuse < (s.length : Int)))) then d.Fuse else (s.length : Int))))], [.var 24 [.sl (List.map encFile y128.Files), .v (.int .i64 (IntKind.i64.wrap (y128.Room - (if ((decide (d.Fuse ≥ 0)) && (decide (d.Fuse < (s.length : Int)))) then d.Fuse else (s.length : Int))))), .v (.int .i64 (if (decide (y128.Fuse ≥ 0)) then (IntKind.i64.wrap (y128.Fuse - (if ((decide (d.Fuse ≥ 0)) && (decide (d.Fuse < (s.length : Int)))) then d.Fuse else (s.length : Int)))) else y128.Fuse)), .v (.bool y128.Off)], .var 24 [.v (.slice none 0 0), .v (.int .i64 0), .v (.int .i64 0), .v (.bool false)]]⟩) ?_ ?_
                    · refine Tri.seqK ?_
                      refine Tri.run (G := gm_ref03_Append) tyOk mixed ?_
                      conv => whnf
                      refine Tri.cond rfl (fun c133 => ?_) (fun c133 => ?_)
                      · replace c133 : (decide (y128.Fuse ≥ 0)) = true := c133
                        refine Tri.run (G := gm_ref03_Append) tyOk mixed ?_
                        conv => whnf
                        exact ⟨rfl, weak_fin _ rfl rfl rfl (.cons (.var (.cons (.same rfl) (.cons (.same rfl) (.cons (.same (show (.v (.int .i64 (IntKind.i64.wrap (y128.Fuse - (if ((decide (d.Fuse ≥ 0)) && (decide (d.Fuse < (s.length : Int)))) then d.Fuse else (s.length : Int))))) : AV) = (.v (.int .i64 (if (decide (y128.Fuse ≥ 0)) then (IntKind.i64.wrap (y128.Fuse - (if ((decide (d.Fuse ≥ 0)) && (decide (d.Fuse < (s.length : Int)))) then d.Fuse else (s.length : Int)))) else y128.Fuse)) : AV) from by simp [c133])) (.cons (.same rfl) (.nil)))))) (.cons (.same rfl) (LeH.rest))) (.cons (.one (.same rfl)) (.cons (.one (.same rfl)) (.cons (.one (.same rfl)) (.cons (.one (.same rfl)) (.nil))))) rfl rfl⟩
                      · replace c133 : (decide (y128.Fuse ≥ 0)) = false := c133
                        refine Tri.run (G := gm_ref03_Append) tyOk mixed ?_
                        conv => whnf
                        exact ⟨rfl, weak_fin _ rfl rfl rfl (.cons (.var (.cons (.same rfl) (.cons (.same rfl) (.cons (.same (show (.v (.int .i64 y128.Fuse) : AV) = (.v (.int .i64 (if (decide (y128.Fuse ≥ 0)) then (IntKind.i64.wrap (y128.Fuse - (if ((decide (d.Fuse ≥ 0)) && (decide (d.Fuse < (s.length : Int)))) then d.Fuse else (s.length : Int)))) else y128.Fuse)) : AV) from by simp [c133])) (.cons (.same rfl) (.nil)))))) (.cons (.same rfl) (LeH.rest))) (.cons (.one (.same rfl)) (.cons (.one (.same rfl)) (.cons (.one (.same rfl)) (.cons (.one (.same rfl)) (.nil))))) rfl rfl⟩
                    · rintro ex S' ⟨rfl, w134⟩
                      conv => whnf
                      refine Tri.weak w134 ?_
                      refine Tri.seqK ?_
                      refine Tri.seqK ?_
                      refine Tri.run (G := gm_ref03_Append) tyOk mixed ?_
                      conv => whnf
                      refine ⟨⟨(s.length : Int), rfl, ?_⟩⟩
                      conv => whnf
                      refine Tri.cond rfl (fun c136 => ?_) (fun c136 => ?_)
                      · replace h := if_t c136 h
                        refine Tri.seqK ?_
                        refine Tri.run (G := gm_ref03_Append) tyOk mixed ?_
                        conv => whnf
                        refine Tri.seqK ?_
                        refine Tri.run (G := gm_ref03_Append) tyOk mixed ?_
                        conv => whnf
                        refine Tri.run (G := gm_ref03_Append) tyOk mixed ?_
                        conv => whnf
                        refine fin_here ?_
                        conv => whnf
                        obtain rfl := Option.some.inj h
                        rfl
                      · replace h := if_f c136 h
                        refine Tri.run (G := gm_ref03_Append) tyOk mixed ?_
                        conv => whnf
                        refine Tri.seqK ?_
                        refine Tri.run (G := gm_ref03_Append) tyOk mixed ?_
                        conv => whnf
                        refine Tri.run (G := gm_ref03_Append) tyOk mixed ?_
                        conv => whnf
                        refine fin_here ?_
                        conv => whnf
                        obtain rfl := Option.some.inj h
                        rfl
noncomputable def ref03_Sync (d : Disk) (name : Str) : Option (Disk × Int) :=
  if d.Off then
    some (d, 6)
  else
    (ref03_at d name).bind fun y3 =>
    if (decide (y3 < 0)) then
      some (d, 7)
    else
      (ix d.Files y3).bind fun x7 =>
      need (x7.Safe.length + x7.Wait.length ≤ 9223372036854775807) <|
      (ref03_with d y3 ({ Name := x7.Name, Safe := (x7.Safe ++ x7.Wait), Wait := [] } : File)).bind fun y10 =>
      some (y10, 0)
def gm_ref03_Sync : Gm := ⟨tys, [], [], []⟩
theorem ref03_Sync_walk (d : Disk) (name : Str) (r : Disk × Int) (h : ref03_Sync d name = some r) : PureP Try.prog 15 [.agg [.sl (List.map encFile d.Files), .v (.int .i64 d.Room), .v (.int .i64 d.Fuse), .v (.bool d.Off)], .v (.string (bs name))] (fun a => a = .tup [.agg [.sl (List.map encFile r.1.Files), .v (.int .i64 r.1.Room), .v (.int .i64 r.1.Fuse), .v (.bool r.1.Off)], .v (.int .i64 r.2)]) := by
  unfold ref03_Sync at h
  refine pureW (G := gm_ref03_Sync) tyOk Try.func15 rfl (by kernel_rfl) (by simp [Try.f15]) ?_
  refine Tri.seqK ?_
  refine Tri.run (G := gm_ref03_Sync) tyOk mixed ?_
  conv => whnf
  refine Tri.seqK ?_
  refine Tri.seqK ?_
  refine Tri.run (G := gm_ref03_Sync) tyOk mixed ?_
  conv => whnf
  refine Tri.cond rfl (fun c2 => ?_) (fun c2 => ?_)
  · replace h := if_t c2 h
    refine Tri.seqK ?_
    refine Tri.run (G := gm_ref03_Sync) tyOk mixed ?_
    conv => whnf
    refine Tri.run (G := gm_ref03_Sync) tyOk mixed ?_
    conv => whnf
    refine fin_here ?_
    conv => whnf
    obtain rfl := Option.some.inj h
    rfl
  · replace h := if_f c2 h
    refine Tri.run (G := gm_ref03_Sync) tyOk mixed ?_
    conv => whnf
    refine Tri.seqK ?_
    refine Tri.run (G := gm_ref03_Sync) tyOk mixed ?_
    conv => whnf
    replace h := bind_some h
    obtain ⟨y3, q4, h⟩ := h
    refine PureP.mono (ref03_at_walk d name y3 q4) ?_
    rintro _ rfl
    conv => whnf
    refine Tri.seqK ?_
    refine Tri.seqK ?_
    refine Tri.run (G := gm_ref03_Sync) tyOk mixed ?_
    conv => whnf
    refine Tri.cond rfl (fun c6 => ?_) (fun c6 => ?_)
    · replace h := if_t c6 h
      refine Tri.seqK ?_
      refine Tri.run (G := gm_ref03_Sync) tyOk mixed ?_
      conv => whnf
      refine Tri.run (G := gm_ref03_Sync) tyOk mixed ?_
      conv => whnf
      refine fin_here ?_
      conv => whnf
      obtain rfl := Option.some.inj h
      rfl
    · replace h := if_f c6 h
      refine Tri.run (G := gm_ref03_Sync) tyOk mixed ?_
      conv => whnf
      refine Tri.seqK ?_
      refine Tri.run (G := gm_ref03_Sync) tyOk mixed ?_
      conv => whnf
      replace h := bind_some h
      obtain ⟨x7, q8, h⟩ := h
      refine ⟨(ix_some q8).1, ?_⟩
      conv => whnf
      refine ⟨⟨_, map_get encFile (ix_some q8).2, ?_⟩⟩
      conv => whnf
      refine ⟨rfl, ?_⟩
      conv => whnf
      refine Tri.seqK ?_
      refine Tri.run (G := gm_ref03_Sync) tyOk mixed ?_
      conv => whnf
      replace h := need_some h
      obtain ⟨p9, h⟩ := h
      refine ⟨p9, ?_⟩
      conv => whnf
      refine ⟨⟨bs (x7.Safe ++ x7.Wait), bs_append _ _, ?_⟩⟩
      conv => whnf
      replace h := bind_some h
      obtain ⟨y10, q11, h⟩ := h
      refine PureP.mono (ref03_with_walk d y3 ({ Name := x7.Name, Safe := (x7.Safe ++ x7.Wait), Wait := [] } : File) y10 q11) ?_
      rintro _ rfl
      conv => whnf
      refine Tri.run (G := gm_ref03_Sync) tyOk mixed ?_
      conv => whnf
      refine fin_here ?_
      conv => whnf
      obtain rfl := Option.some.inj h
      rfl
noncomputable def ref03_Find (d : Disk) (name : Str) : Option (File × Bool) :=
  (ref03_at d name).bind fun y1 =>
  if (decide (y1 < 0)) then
    some (({ Name := [], Safe := [], Wait := [] } : File), false)
  else
    (ix d.Files y1).bind fun x5 =>
    some (x5, true)
def gm_ref03_Find : Gm := ⟨tys, [], [], []⟩
theorem ref03_Find_walk (d : Disk) (name : Str) (r : File × Bool) (h : ref03_Find d name = some r) : PureP Try.prog 19 [.agg [.sl (List.map encFile d.Files), .v (.int .i64 d.Room), .v (.int .i64 d.Fuse), .v (.bool d.Off)], .v (.string (bs name))] (fun a => a = .tup [.agg [.v (.string (bs r.1.Name)), .v (.string (bs r.1.Safe)), .v (.string (bs r.1.Wait))], .v (.bool r.2)]) := by
  unfold ref03_Find at h
  refine pureW (G := gm_ref03_Find) tyOk Try.func19 rfl (by kernel_rfl) (by simp [Try.f19]) ?_
  refine Tri.seqK ?_
  refine Tri.run (G := gm_ref03_Find) tyOk mixed ?_
  conv => whnf
  refine Tri.seqK ?_
  refine Tri.run (G := gm_ref03_Find) tyOk mixed ?_
  conv => whnf
  replace h := bind_some h
  obtain ⟨y1, q2, h⟩ := h
  refine PureP.mono (ref03_at_walk d name y1 q2) ?_
  rintro _ rfl
  conv => whnf
  refine Tri.seqK ?_
  refine Tri.seqK ?_
  refine Tri.run (G := gm_ref03_Find) tyOk mixed ?_
  conv => whnf
  refine Tri.cond rfl (fun c4 => ?_) (fun c4 => ?_)
  · replace h := if_t c4 h
    refine Tri.seqK ?_
    refine Tri.run (G := gm_ref03_Find) tyOk mixed ?_
    conv => whnf
    refine Tri.run (G := gm_ref03_Find) tyOk mixed ?_
    conv => whnf
    refine fin_here ?_
    conv => whnf
    obtain rfl := Option.some.inj h
    rfl
  · replace h := if_f c4 h
    refine Tri.run (G := gm_ref03_Find) tyOk mixed ?_
    conv => whnf
    refine Tri.seqK ?_
    refine Tri.run (G := gm_ref03_Find) tyOk mixed ?_
    conv => whnf
    replace h := bind_some h
    obtain ⟨x5, q6, h⟩ := h
    refine ⟨(ix_some q6).1, ?_⟩
    conv => whnf
    refine ⟨⟨_, map_get encFile (ix_some q6).2, ?_⟩⟩
    conv => whnf
    refine ⟨rfl, ?_⟩
    conv => whnf
    refine Tri.run (G := gm_ref03_Find) tyOk mixed ?_
    conv => whnf
    refine fin_here ?_
    conv => whnf
    obtain rfl := Option.some.inj h
    rfl
noncomputable def ref03_Read (d : Disk) (name : Str) : Option (Str × Int) :=
  (ref03_Find d name).bind fun y1 =>
  if (!y1.2) then
    some ([], 7)
  else
    need (y1.1.Safe.length + y1.1.Wait.length ≤ 9223372036854775807) <|
    some ((y1.1.Safe ++ y1.1.Wait), 0)
def gm_ref03_Read : Gm := ⟨tys, [], [], []⟩
theorem ref03_Read_walk (d : Disk) (name : Str) (r : Str × Int) (h : ref03_Read d name = some r) : PureP Try.prog 17 [.agg [.sl (List.map encFile d.Files), .v (.int .i64 d.Room), .v (.int .i64 d.Fuse), .v (.bool d.Off)], .v (.string (bs name))] (fun a => a = .tup [.v (.string (bs r.1)), .v (.int .i64 r.2)]) := by
  unfold ref03_Read at h
  refine pureW (G := gm_ref03_Read) tyOk Try.func17 rfl (by kernel_rfl) (by simp [Try.f17]) ?_
  refine Tri.seqK ?_
  refine Tri.run (G := gm_ref03_Read) tyOk mixed ?_
  conv => whnf
  refine Tri.seqK ?_
  refine Tri.run (G := gm_ref03_Read) tyOk mixed ?_
  conv => whnf
  replace h := bind_some h
  obtain ⟨y1, q2, h⟩ := h
  refine PureP.mono (ref03_Find_walk d name y1 q2) ?_
  rintro _ rfl
  conv => whnf
  refine Tri.seqK ?_
  refine Tri.seqK ?_
  refine Tri.run (G := gm_ref03_Read) tyOk mixed ?_
  conv => whnf
  refine Tri.cond rfl (fun c4 => ?_) (fun c4 => ?_)
  · replace h := if_t c4 h
    refine Tri.seqK ?_
    refine Tri.run (G := gm_ref03_Read) tyOk mixed ?_
    conv => whnf
    refine Tri.run (G := gm_ref03_Read) tyOk mixed ?_
    conv => whnf
    refine fin_here ?_
    conv => whnf
    obtain rfl := Option.some.inj h
    rfl
  · replace h := if_f c4 h
    refine Tri.run (G := gm_ref03_Read) tyOk mixed ?_
    conv => whnf
    refine Tri.seqK ?_
    refine Tri.run (G := gm_ref03_Read) tyOk mixed ?_
    conv => whnf
    replace h := need_some h
    obtain ⟨p5, h⟩ := h
    refine ⟨p5, ?_⟩
    conv => whnf
    refine ⟨⟨bs (y1.1.Safe ++ y1.1.Wait), bs_append _ _, ?_⟩⟩
    conv => whnf
    refine Tri.run (G := gm_ref03_Read) tyOk mixed ?_
    conv => whnf
    refine fin_here ?_
    conv => whnf
    obtain rfl := Option.some.inj h
    rfl
noncomputable def ref03_New (room : Int) : Option (Disk × Int) :=
  if (decide (room < 0)) then
    some (({ Files := [], Room := 0, Fuse := 0, Off := false } : Disk), 1)
  else
    some (({ Files := [], Room := room, Fuse := (-1), Off := false } : Disk), 0)
def gm_ref03_New : Gm := ⟨tys, [], [], []⟩
theorem ref03_New_walk (room : Int) (r : Disk × Int) (h : ref03_New room = some r) : PureP Try.prog 21 [.v (.int .i64 room)] (fun a => a = .tup [.agg [.sl (List.map encFile r.1.Files), .v (.int .i64 r.1.Room), .v (.int .i64 r.1.Fuse), .v (.bool r.1.Off)], .v (.int .i64 r.2)]) := by
  unfold ref03_New at h
  refine pureW (G := gm_ref03_New) tyOk Try.func21 rfl (by kernel_rfl) (by simp [Try.f21]) ?_
  refine Tri.seqK ?_
  refine Tri.run (G := gm_ref03_New) tyOk mixed ?_
  conv => whnf
  refine Tri.seqK ?_
  refine Tri.seqK ?_
  refine Tri.run (G := gm_ref03_New) tyOk mixed ?_
  conv => whnf
  refine Tri.cond rfl (fun c2 => ?_) (fun c2 => ?_)
  · replace h := if_t c2 h
    refine Tri.seqK ?_
    refine Tri.run (G := gm_ref03_New) tyOk mixed ?_
    conv => whnf
    refine Tri.run (G := gm_ref03_New) tyOk mixed ?_
    conv => whnf
    refine fin_here ?_
    conv => whnf
    obtain rfl := Option.some.inj h
    rfl
  · replace h := if_f c2 h
    refine Tri.run (G := gm_ref03_New) tyOk mixed ?_
    conv => whnf
    refine Tri.seqK ?_
    refine Tri.run (G := gm_ref03_New) tyOk mixed ?_
    conv => whnf
    refine Tri.run (G := gm_ref03_New) tyOk mixed ?_
    conv => whnf
    refine fin_here ?_
    conv => whnf
    obtain rfl := Option.some.inj h
    rfl
noncomputable def ref03_Same_l2 (a : Disk) (b : Disk) (a140 : Int) : Option ((Int) ⊕ ((Unit) ⊕ (Unit))) :=
  if (decide (a140 < (a.Files.length : Int))) then
    (ix a.Files a140).bind fun x163 =>
    (ix b.Files a140).bind fun x165 =>
    if (!(decide (x163 = x165))) then
      some (.inr (.inl ()))
    else
      some (.inl (IntKind.i64.wrap (a140 + 1)))
  else
    some (.inr (.inr ()))
noncomputable def ref03_Same (a : Disk) (b : Disk) : Option (Bool) :=
  if ((!(decide (a.Room = b.Room))) || ((!(decide (a.Fuse = b.Fuse))) || ((!(a.Off == b.Off)) || (!(decide ((a.Files.length : Int) = (b.Files.length : Int))))))) then
    some false
  else
    (loop (fun (s145 : Int) => ref03_Same_l2 a b s145) (0 : Int)).bind fun (y141 : (Unit) ⊕ (Unit)) =>
    match y141 with
    | (.inl v143) =>
      some false
    | (.inr v144) =>
      some true
def gm_ref03_Same : Gm := ⟨tys, [], [], []⟩
theorem ref03_Same_walk (a : Disk) (b : Disk) (r : Bool) (h : ref03_Same a b = some r) : PureP Try.prog 22 [.agg [.sl (List.map encFile a.Files), .v (.int .i64 a.Room), .v (.int .i64 a.Fuse), .v (.bool a.Off)], .agg [.sl (List.map encFile b.Files), .v (.int .i64 b.Room), .v (.int .i64 b.Fuse), .v (.bool b.Off)]] (fun a => a = .v (.bool r)) := by
  unfold ref03_Same at h
  refine pureW (G := gm_ref03_Same) tyOk Try.func22 rfl (by kernel_rfl) (by simp [Try.f22]) ?_
  refine Tri.seqK ?_
  refine Tri.run (G := gm_ref03_Same) tyOk mixed ?_
  conv => whnf
  refine Tri.seqK ?_
  refine Tri.seqK ?_
  refine Tri.cut (fun ex S' => ex = .normal ∧ Weak S' ⟨52, 0, ofRegs [(2, .ptr 0 0), (3, .ptr 1 0), (33, .v (.bool ((!(decide (a.Room = b.Room))) || ((!(decide (a.Fuse = b.Fuse))) || ((!(a.Off == b.Off)) || (!(decide ((a.Files.length : Int) = (b.Files.length : Int)))))))))], [.var 24 [.sl (List.map encFile a.Files), .v (.int .i64 a.Room), .v (.int .i64 a.Fuse), .v (.bool a.Off)], .var 24 [.sl (List.map encFile b.Files), .v (.int .i64 b.Room), .v (.int .i64 b.Fuse), .v (.bool b.Off)]]⟩) ?_ ?_
  · refine Tri.run (G := gm_ref03_Same) tyOk mixed ?_
    conv => whnf
    refine cond_mk (fun c24 => ?_) (fun c24 => ?_)
    · replace c24 : (!(decide (a.Room = b.Room))) = true := c24
      conv => whnf
      exact ⟨rfl, weak_fin _ rfl rfl rfl (.cons (.same rfl) (.cons (.same rfl) (LeH.rest))) (.cons (.one (.same rfl)) (.cons (.one (.same rfl)) (.cons (.one (.same (show (.v (.bool true) : AV) = (.v (.bool ((!(decide (a.Room = b.Room))) || ((!(decide (a.Fuse = b.Fuse))) || ((!(a.Off == b.Off)) || (!(decide ((a.Files.length : Int) = (b.Files.length : Int)))))))) : AV) from by simp [c24]))) (.nil)))) rfl rfl⟩
    · replace c24 : (!(decide (a.Room = b.Room))) = false := c24
      conv => whnf
      refine cond_mk (fun c25 => ?_) (fun c25 => ?_)
      · replace c25 : (!(decide (a.Fuse = b.Fuse))) = true := c25
        conv => whnf
        exact ⟨rfl, weak_fin _ rfl rfl rfl (.cons (.same rfl) (.cons (.same rfl) (LeH.rest))) (.cons (.one (.same rfl)) (.cons (.one (.same rfl)) (.cons (.one (.same (show (.v (.bool true) : AV) = (.v (.bool ((!(decide (a.Room = b.Room))) || ((!(decide (a.Fuse = b.Fuse))) || ((!(a.Off == b.Off)) || (!(decide ((a.Files.length : Int) = (b.Files.length : Int)))))))) : AV) from by simp [c24, c25]))) (.nil)))) rfl rfl⟩
      · replace c25 : (!(decide (a.Fuse = b.Fuse))) = false := c25
        conv => whnf
        refine cond_mk (fun c26 => ?_) (fun c26 => ?_)
        · replace c26 : (!(a.Off == b.Off)) = true := c26
          conv => whnf
          exact ⟨rfl, weak_fin _ rfl rfl rfl (.cons (.same rfl) (.cons (.same rfl) (LeH.rest))) (.cons (.one (.same rfl)) (.cons (.one (.same rfl)) (.cons (.one (.same (show (.v (.bool true) : AV) = (.v (.bool ((!(decide (a.Room = b.Room))) || ((!(decide (a.Fuse = b.Fuse))) || ((!(a.Off == b.Off)) || (!(decide ((a.Files.length : Int) = (b.Files.length : Int)))))))) : AV) from by simp [c24, c25, c26]))) (.nil)))) rfl rfl⟩
        · replace c26 : (!(a.Off == b.Off)) = false := c26
          conv => whnf
          refine ⟨⟨(a.Files.length : Int), (len_map _ _).symm, ?_⟩⟩
          conv => whnf
          refine ⟨⟨(b.Files.length : Int), (len_map _ _).symm, ?_⟩⟩
          conv => whnf
          exact ⟨rfl, weak_fin _ rfl rfl rfl (.cons (.same rfl) (.cons (.same rfl) (LeH.rest))) (.cons (.one (.same rfl)) (.cons (.one (.same rfl)) (.cons (.one (.same (show (.v (.bool (!(decide ((a.Files.length : Int) = (b.Files.length : Int))))) : AV) = (.v (.bool ((!(decide (a.Room = b.Room))) || ((!(decide (a.Fuse = b.Fuse))) || ((!(a.Off == b.Off)) || (!(decide ((a.Files.length : Int) = (b.Files.length : Int)))))))) : AV) from by simp [c24, c25, c26]))) (.nil)))) rfl rfl⟩
  · rintro ex S' ⟨rfl, w27⟩
    conv => whnf
    refine Tri.weak w27 ?_
    refine Tri.cond rfl (fun c28 => ?_) (fun c28 => ?_)
    · replace h := if_t c28 h
      refine Tri.seqK ?_
      refine Tri.run (G := gm_ref03_Same) tyOk mixed ?_
      conv => whnf
      refine Tri.run (G := gm_ref03_Same) tyOk mixed ?_
      conv => whnf
      refine fin_here ?_
      conv => whnf
      obtain rfl := Option.some.inj h
      rfl
    · replace h := if_f c28 h
      refine Tri.run (G := gm_ref03_Same) tyOk mixed ?_
      conv => whnf
      refine Tri.seqK ?_
      refine Tri.seqK ?_
      refine Tri.run (G := gm_ref03_Same) tyOk mixed ?_
      conv => whnf
      refine Tri.block ?_
      replace h := bind_some h
      obtain ⟨y141, q142, h⟩ := h
      refine Tri.cut (fun ex S' => (∃ v143 : Unit, y141 = (.inl v143) ∧ ex = .ret ∧ Weak S' ⟨52, 0, ofRegs [(4, .v (.bool false))], []⟩) ∨ (∃ v144 : Unit, y141 = (.inr v144) ∧ ex = (.exit 0) ∧ Weak S' ⟨52, 0, ofRegs [], []⟩)) ?_ ?_
      · refine Tri.loopF (fun (s145 : Int) => (⟨52, 0, ofRegs [(2, .ptr 0 0), (3, .ptr 1 0), (5, .v (.int .i64 s145))], [.var 24 [.sl (List.map encFile a.Files), .v (.int .i64 a.Room), .v (.int .i64 a.Fuse), .v (.bool a.Off)], .var 24 [.sl (List.map encFile b.Files), .v (.int .i64 b.Room), .v (.int .i64 b.Fuse), .v (.bool b.Off)]]⟩ : St)) q142 (weak_fin _ rfl rfl rfl (.cons (.same rfl) (.cons (.same rfl) (LeH.rest))) (.cons (.one (.same rfl)) (.cons (.one (.same rfl)) (.cons (.one (.same rfl)) (.nil)))) rfl rfl) ?_
        rintro a140 v146 hv r147
        have hv : ref03_Same_l2 a b a140 = some v146 := hv
        unfold ref03_Same_l2 at hv
        refine Tri.seqK ?_
        refine Tri.seqK ?_
        refine Tri.run (G := gm_ref03_Same) tyOk mixed ?_
        conv => whnf
        refine ⟨⟨(a.Files.length : Int), (len_map _ _).symm, ?_⟩⟩
        conv => whnf
        refine Tri.cond rfl (fun c149 => ?_) (fun c149 => ?_)
        · replace hv := if_t c149 hv
          refine Tri.run (G := gm_ref03_Same) tyOk mixed ?_
          conv => whnf
          refine Tri.seqK ?_
          refine Tri.block ?_
          refine Tri.seqK ?_
          refine Tri.run (G := gm_ref03_Same) tyOk mixed ?_
          conv => whnf
          refine Draw.one 11 (.take 0 (.take 1 (.take 2 (.take 3 (.take 4 (.take 5 (.take 6 (.take 7 (.take 8 (.take 9 (.take 10 (.fin)))))))))))) [] (by kernel_rfl) ?_
          conv => whnf
          replace hv := bind_some hv
          obtain ⟨x163, q164, hv⟩ := hv
          refine ⟨(ix_some q164).1, ?_⟩
          conv => whnf
          refine ⟨⟨_, map_get encFile (ix_some q164).2, ?_⟩⟩
          conv => whnf
          refine ⟨rfl, ?_⟩
          conv => whnf
          replace hv := bind_some hv
          obtain ⟨x165, q166, hv⟩ := hv
          refine ⟨(ix_some q166).1, ?_⟩
          conv => whnf
          refine ⟨⟨_, map_get encFile (ix_some q166).2, ?_⟩⟩
          conv => whnf
          refine ⟨rfl, ?_⟩
          conv => whnf
          refine ⟨⟨(!(decide (x163 = x165))), congrArg Bool.not (eq_File _ _), ?_⟩⟩
          conv => whnf
          refine Tri.cond rfl (fun c167 => ?_) (fun c167 => ?_)
          · replace hv := if_t c167 hv
            refine Tri.seqK ?_
            refine Tri.run (G := gm_ref03_Same) tyOk mixed ?_
            conv => whnf
            refine Tri.run (G := gm_ref03_Same) tyOk mixed ?_
            conv => whnf
            obtain rfl := Option.some.inj hv
            obtain rfl := r147 _ rfl
            exact Or.inl ⟨_, rfl, rfl, weak_fin _ rfl rfl rfl (LeH.rest) (.cons (.one (.same rfl)) (.nil)) rfl rfl⟩
          · replace hv := if_f c167 hv
            refine Tri.run (G := gm_ref03_Same) tyOk mixed ?_
            conv => whnf
            refine Tri.run (G := gm_ref03_Same) tyOk mixed ?_
            conv => whnf
            obtain rfl := Option.some.inj hv
            exact ⟨_, rfl, weak_fin _ rfl rfl rfl (.cons (.same rfl) (.cons (.same rfl) (LeH.rest))) (.cons (.one (.same rfl)) (.cons (.one (.same rfl)) (.cons (.one (.same rfl)) (.nil)))) rfl rfl⟩
        · replace hv := if_f c149 hv
          refine Tri.run (G := gm_ref03_Same) tyOk mixed ?_
          conv => whnf
          obtain rfl := Option.some.inj hv
          obtain rfl := r147 _ rfl
          exact Or.inr (⟨_, rfl, rfl, weak_fin _ rfl rfl rfl (LeH.rest) (.nil) rfl rfl⟩)
      · rintro ex S' (⟨v143, rfl, rfl, w168⟩ | ⟨v144, rfl, rfl, w168⟩)
        · dsimp only at h
          conv => whnf
          refine fin_pre w168 ?_
          conv => whnf
          obtain rfl := Option.some.inj h
          rfl
        · dsimp only at h
          conv => whnf
          refine Tri.weak w168 ?_
          refine Tri.seqK ?_
          refine Tri.run (G := gm_ref03_Same) tyOk mixed ?_
          conv => whnf
          refine Tri.run (G := gm_ref03_Same) tyOk mixed ?_
          conv => whnf
          refine fin_here ?_
          conv => whnf
          obtain rfl := Option.some.inj h
          rfl
noncomputable def law03_DiskActs_l2 (with_ : DiskActsIn) (a154 : Int) : Option ((Int) ⊕ ((Unit) ⊕ (Unit))) :=
  if (decide (a154 < (with_.D.Files.length : Int))) then
    (
      (ix with_.D.Files a154).bind fun x185 =>
      if (decide ((x185.Safe.length : Int) > 131072)) then
        some true
      else
        some (decide ((x185.Wait.length : Int) > 131072))).bind fun (y183 : Bool) =>
    if y183 then
      some (.inr (.inl ()))
    else
      some (.inl (IntKind.i64.wrap (a154 + 1)))
  else
    some (.inr (.inr ()))
noncomputable def law03_DiskActs (with_ : DiskActsIn) : Option (Bool) :=
  law03_shown.bind fun y1 =>
  (loop (fun (s159 : Int) => law03_DiskActs_l2 with_ s159) (0 : Int)).bind fun (y155 : (Unit) ⊕ (Unit)) =>
  match y155 with
  | (.inl v157) =>
    some y1
  | (.inr v158) =>
    (disk_Append with_.D with_.Name with_.S).bind fun y191 =>
    (ref03_Append with_.D with_.Name with_.S).bind fun y193 =>
    (disk_Sync with_.D with_.Name).bind fun y195 =>
    (ref03_Sync with_.D with_.Name).bind fun y197 =>
    (disk_Read with_.D with_.Name).bind fun y199 =>
    (ref03_Read with_.D with_.Name).bind fun y201 =>
    (disk_Find with_.D with_.Name).bind fun y203 =>
    (ref03_Find with_.D with_.Name).bind fun y205 =>
    (disk_New with_.Room).bind fun y207 =>
    (ref03_New with_.Room).bind fun y209 =>
    (
      (ref03_Same y191.1 y193.1).bind fun y229 =>
      if y229 then
        (ref03_Same y195.1 y197.1).bind fun y232 =>
        if y232 then
          (ref03_Same y207.1 y209.1).bind fun y235 =>
          some y235
        else
          some false
      else
        some false).bind fun (y227 : Bool) =>
    if y1 then
      if y227 then
        if (decide (y191.2 = y193.2)) then
          if (decide (y195.2 = y197.2)) then
            if (decide (y199.1 = y201.1)) then
              if (decide (y199.2 = y201.2)) then
                if (decide (y203.1 = y205.1)) then
                  if (y203.2 == y205.2) then
                    some (decide (y207.2 = y209.2))
                  else
                    some false
                else
                  some false
              else
                some false
            else
              some false
          else
            some false
        else
          some false
      else
        some false
    else
      some false
def gm_law03_DiskActs : Gm := ⟨tys, [], [], []⟩
theorem law03_DiskActs_walk (with_ : DiskActsIn) (r : Bool) (h : law03_DiskActs with_ = some r) : PureP Try.prog 3 [.agg [.sl (List.map encFile with_.D.Files), .v (.int .i64 with_.D.Room), .v (.int .i64 with_.D.Fuse), .v (.bool with_.D.Off), .v (.string (bs with_.Name)), .v (.string (bs with_.S)), .v (.int .i64 with_.Room)]] (fun a => a = .v (.bool r)) := by
  unfold law03_DiskActs at h
  refine pureW (G := gm_law03_DiskActs) tyOk Try.func3 rfl (by kernel_rfl) (by simp [Try.f3]) ?_
  refine Tri.seqK ?_
  refine Tri.run (G := gm_law03_DiskActs) tyOk mixed ?_
  conv => whnf
  refine Tri.seqK ?_
  refine Tri.run (G := gm_law03_DiskActs) tyOk mixed ?_
  conv => whnf
  refine Tri.seqK ?_
  refine Tri.run (G := gm_law03_DiskActs) tyOk mixed ?_
  conv => whnf
  refine Tri.seqK ?_
  refine Tri.run (G := gm_law03_DiskActs) tyOk mixed ?_
  conv => whnf
  refine Tri.seqK ?_
  refine Tri.run (G := gm_law03_DiskActs) tyOk mixed ?_
  conv => whnf
  refine Tri.seqK ?_
  refine Tri.run (G := gm_law03_DiskActs) tyOk mixed ?_
  conv => whnf
  replace h := bind_some h
  obtain ⟨y1, q2, h⟩ := h
  refine PureP.mono (law03_shown_walk y1 q2) ?_
  rintro _ rfl
  conv => whnf
  refine Tri.seqK ?_
  refine Tri.seqK ?_
  refine Tri.run (G := gm_law03_DiskActs) tyOk mixed ?_
  conv => whnf
  refine Tri.block ?_
  replace h := bind_some h
  obtain ⟨y155, q156, h⟩ := h
  refine Tri.cut (fun ex S' => (∃ v157 : Unit, y155 = (.inl v157) ∧ ex = .ret ∧ Weak S' ⟨177, 0, ofRegs [(2, .v (.bool y1))], []⟩) ∨ (∃ v158 : Unit, y155 = (.inr v158) ∧ ex = (.exit 0) ∧ Weak S' ⟨177, 0, ofRegs [(3, .ptr 1 0), (4, .v (.string (bs with_.Name))), (5, .v (.string (bs with_.S))), (6, .v (.int .i64 with_.Room)), (7, .v (.bool y1))], [.gone, .var 24 [.sl (List.map encFile with_.D.Files), .v (.int .i64 with_.D.Room), .v (.int .i64 with_.D.Fuse), .v (.bool with_.D.Off)]]⟩)) ?_ ?_
  · refine Tri.loopF (fun (s159 : Int) => (⟨177, 0, ofRegs [(3, .ptr 1 0), (4, .v (.string (bs with_.Name))), (5, .v (.string (bs with_.S))), (6, .v (.int .i64 with_.Room)), (7, .v (.bool y1)), (8, .v (.int .i64 s159))], [.gone, .var 24 [.sl (List.map encFile with_.D.Files), .v (.int .i64 with_.D.Room), .v (.int .i64 with_.D.Fuse), .v (.bool with_.D.Off)]]⟩ : St)) q156 (weak_fin _ rfl rfl rfl (.cons (.gone) (.cons (.same rfl) (LeH.rest))) (.cons (.one (.same rfl)) (.cons (.one (.same rfl)) (.cons (.one (.same rfl)) (.cons (.one (.same rfl)) (.cons (.one (.same rfl)) (.cons (.one (.same rfl)) (.nil))))))) rfl rfl) ?_
    rintro a154 v160 hv r161
    have hv : law03_DiskActs_l2 with_ a154 = some v160 := hv
    unfold law03_DiskActs_l2 at hv
    refine Tri.seqK ?_
    refine Tri.seqK ?_
    refine Tri.run (G := gm_law03_DiskActs) tyOk mixed ?_
    conv => whnf
    refine ⟨⟨(with_.D.Files.length : Int), (len_map _ _).symm, ?_⟩⟩
    conv => whnf
    refine Tri.cond rfl (fun c163 => ?_) (fun c163 => ?_)
    · replace hv := if_t c163 hv
      refine Tri.run (G := gm_law03_DiskActs) tyOk mixed ?_
      conv => whnf
      refine Tri.seqK ?_
      refine Tri.block ?_
      refine Tri.seqK ?_
      replace hv := bind_some hv
      obtain ⟨y183, q184, hv⟩ := hv
      refine Tri.cut (fun ex S' => ex = .normal ∧ Weak S' ⟨177, 0, ofRegs [(3, .ptr 1 0), (4, .v (.string (bs with_.Name))), (5, .v (.string (bs with_.S))), (6, .v (.int .i64 with_.Room)), (7, .v (.bool y1)), (8, .v (.int .i64 a154)), (63, .v (.bool y183))], [.gone, .var 24 [.sl (List.map encFile with_.D.Files), .v (.int .i64 with_.D.Room), .v (.int .i64 with_.D.Fuse), .v (.bool with_.D.Off)]]⟩) ?_ ?_
      · refine Tri.run (G := gm_law03_DiskActs) tyOk mixed ?_
        conv => whnf
        replace q184 := bind_some q184
        obtain ⟨x185, q186, q184⟩ := q184
        refine ⟨(ix_some q186).1, ?_⟩
        conv => whnf
        refine ⟨⟨_, map_get encFile (ix_some q186).2, ?_⟩⟩
        conv => whnf
        refine ⟨rfl, ?_⟩
        conv => whnf
        refine ⟨⟨(x185.Safe.length : Int), rfl, ?_⟩⟩
        conv => whnf
        refine cond_mk (fun c187 => ?_) (fun c187 => ?_)
        · replace q184 := if_t c187 q184
          conv => whnf
          obtain rfl := Option.some.inj q184
          exact ⟨rfl, weak_fin _ rfl rfl rfl (.cons (.same rfl) (.cons (.same rfl) (LeH.rest))) (.cons (.one (.same rfl)) (.cons (.one (.same rfl)) (.cons (.one (.same rfl)) (.cons (.one (.same rfl)) (.cons (.one (.same rfl)) (.cons (.one (.same rfl)) (.cons (.one (.same rfl)) (.nil)))))))) rfl rfl⟩
        · replace q184 := if_f c187 q184
          conv => whnf
          refine ⟨(ix_some q186).1, ?_⟩
          conv => whnf
          refine ⟨⟨_, map_get encFile (ix_some q186).2, ?_⟩⟩
          conv => whnf
          refine ⟨rfl, ?_⟩
          conv => whnf
          refine ⟨⟨(x185.Wait.length : Int), rfl, ?_⟩⟩
          conv => whnf
          obtain rfl := Option.some.inj q184
          exact ⟨rfl, weak_fin _ rfl rfl rfl (.cons (.same rfl) (.cons (.same rfl) (LeH.rest))) (.cons (.one (.same rfl)) (.cons (.one (.same rfl)) (.cons (.one (.same rfl)) (.cons (.one (.same rfl)) (.cons (.one (.same rfl)) (.cons (.one (.same rfl)) (.cons (.one (.same rfl)) (.nil)))))))) rfl rfl⟩
      · rintro ex S' ⟨rfl, w188⟩
        conv => whnf
        refine Tri.weak w188 ?_
        refine Tri.cond rfl (fun c189 => ?_) (fun c189 => ?_)
        · replace hv := if_t c189 hv
          refine Tri.seqK ?_
          refine Tri.run (G := gm_law03_DiskActs) tyOk mixed ?_
          conv => whnf
          refine Tri.run (G := gm_law03_DiskActs) tyOk mixed ?_
          conv => whnf
          obtain rfl := Option.some.inj hv
          obtain rfl := r161 _ rfl
          exact Or.inl ⟨_, rfl, rfl, weak_fin _ rfl rfl rfl (LeH.rest) (.cons (.one (.same rfl)) (.nil)) rfl rfl⟩
        · replace hv := if_f c189 hv
          refine Tri.run (G := gm_law03_DiskActs) tyOk mixed ?_
          conv => whnf
          refine Tri.run (G := gm_law03_DiskActs) tyOk mixed ?_
          conv => whnf
          obtain rfl := Option.some.inj hv
          exact ⟨_, rfl, weak_fin _ rfl rfl rfl (.cons (.same rfl) (.cons (.same rfl) (LeH.rest))) (.cons (.one (.same rfl)) (.cons (.one (.same rfl)) (.cons (.one (.same rfl)) (.cons (.one (.same rfl)) (.cons (.one (.same rfl)) (.cons (.one (.same rfl)) (.nil))))))) rfl rfl⟩
    · replace hv := if_f c163 hv
      refine Tri.run (G := gm_law03_DiskActs) tyOk mixed ?_
      conv => whnf
      obtain rfl := Option.some.inj hv
      obtain rfl := r161 _ rfl
      exact Or.inr (⟨_, rfl, rfl, weak_fin _ rfl rfl rfl (.cons (.same rfl) (.cons (.same rfl) (LeH.rest))) (.cons (.one (.same rfl)) (.cons (.one (.same rfl)) (.cons (.one (.same rfl)) (.cons (.one (.same rfl)) (.cons (.one (.same rfl)) (.nil)))))) rfl rfl⟩)
  · rintro ex S' (⟨v157, rfl, rfl, w190⟩ | ⟨v158, rfl, rfl, w190⟩)
    · dsimp only at h
      conv => whnf
      refine fin_pre w190 ?_
      conv => whnf
      obtain rfl := Option.some.inj h
      rfl
    · dsimp only at h
      conv => whnf
      refine Tri.weak w190 ?_
      refine Tri.seqK ?_
      refine Tri.run (G := gm_law03_DiskActs) tyOk mixed ?_
      conv => whnf
      replace h := bind_some h
      obtain ⟨y191, q192, h⟩ := h
      refine PureP.mono (disk_Append_walk with_.D with_.Name with_.S y191 q192) ?_
      rintro _ rfl
      conv => whnf
      refine Tri.seqK ?_
      refine Tri.run (G := gm_law03_DiskActs) tyOk mixed ?_
      conv => whnf
      replace h := bind_some h
      obtain ⟨y193, q194, h⟩ := h
      refine PureP.mono (ref03_Append_walk with_.D with_.Name with_.S y193 q194) ?_
      rintro _ rfl
      conv => whnf
      refine Tri.seqK ?_
      refine Tri.run (G := gm_law03_DiskActs) tyOk mixed ?_
      conv => whnf
      replace h := bind_some h
      obtain ⟨y195, q196, h⟩ := h
      refine PureP.mono (disk_Sync_walk with_.D with_.Name y195 q196) ?_
      rintro _ rfl
      conv => whnf
      refine Tri.seqK ?_
      refine Tri.run (G := gm_law03_DiskActs) tyOk mixed ?_
      conv => whnf
      replace h := bind_some h
      obtain ⟨y197, q198, h⟩ := h
      refine PureP.mono (ref03_Sync_walk with_.D with_.Name y197 q198) ?_
      rintro _ rfl
      conv => whnf
      refine Tri.seqK ?_
      refine Tri.run (G := gm_law03_DiskActs) tyOk mixed ?_
      conv => whnf
      replace h := bind_some h
      obtain ⟨y199, q200, h⟩ := h
      refine PureP.mono (disk_Read_walk with_.D with_.Name y199 q200) ?_
      rintro _ rfl
      conv => whnf
      refine Tri.seqK ?_
      refine Tri.run (G := gm_law03_DiskActs) tyOk mixed ?_
      conv => whnf
      replace h := bind_some h
      obtain ⟨y201, q202, h⟩ := h
      refine PureP.mono (ref03_Read_walk with_.D with_.Name y201 q202) ?_
      rintro _ rfl
      conv => whnf
      refine Tri.seqK ?_
      refine Tri.run (G := gm_law03_DiskActs) tyOk mixed ?_
      conv => whnf
      replace h := bind_some h
      obtain ⟨y203, q204, h⟩ := h
      refine PureP.mono (disk_Find_walk with_.D with_.Name y203 q204) ?_
      rintro _ rfl
      conv => whnf
      refine Tri.seqK ?_
      refine Tri.run (G := gm_law03_DiskActs) tyOk mixed ?_
      conv => whnf
      replace h := bind_some h
      obtain ⟨y205, q206, h⟩ := h
      refine PureP.mono (ref03_Find_walk with_.D with_.Name y205 q206) ?_
      rintro _ rfl
      conv => whnf
      refine Tri.seqK ?_
      refine Tri.run (G := gm_law03_DiskActs) tyOk mixed ?_
      conv => whnf
      replace h := bind_some h
      obtain ⟨y207, q208, h⟩ := h
      refine PureP.mono (disk_New_walk with_.Room y207 q208) ?_
      rintro _ rfl
      conv => whnf
      refine Tri.seqK ?_
      refine Tri.run (G := gm_law03_DiskActs) tyOk mixed ?_
      conv => whnf
      replace h := bind_some h
      obtain ⟨y209, q210, h⟩ := h
      refine PureP.mono (ref03_New_walk with_.Room y209 q210) ?_
      rintro _ rfl
      conv => whnf
      refine Tri.seqK ?_
      replace h := bind_some h
      obtain ⟨y227, q228, h⟩ := h
      refine Tri.cut (fun ex S' => ex = .normal ∧ Weak S' ⟨177, 0, ofRegs [(7, .v (.bool y1)), (10, .v (.int .i64 y191.2)), (12, .v (.int .i64 y193.2)), (14, .v (.int .i64 y195.2)), (16, .v (.int .i64 y197.2)), (17, .v (.string (bs y199.1))), (18, .v (.int .i64 y199.2)), (19, .v (.string (bs y201.1))), (20, .v (.int .i64 y201.2)), (21, .ptr 6 0), (22, .v (.bool y203.2)), (23, .ptr 7 0), (24, .v (.bool y205.2)), (26, .v (.int .i64 y207.2)), (28, .v (.int .i64 y209.2)), (29, .v (.bool y227))], [.gone, .gone, .gone, .gone, .gone, .gone, .var 29 [.v (.string (bs y203.1.Name)), .v (.string (bs y203.1.Safe)), .v (.string (bs y203.1.Wait))], .var 29 [.v (.string (bs y205.1.Name)), .v (.string (bs y205.1.Safe)), .v (.string (bs y205.1.Wait))]]⟩) ?_ ?_
      · refine Tri.run (G := gm_law03_DiskActs) tyOk mixed ?_
        conv => whnf
        replace q228 := bind_some q228
        obtain ⟨y229, q230, q228⟩ := q228
        refine PureP.mono (ref03_Same_walk y191.1 y193.1 y229 q230) ?_
        rintro _ rfl
        conv => whnf
        refine cond_mk (fun c231 => ?_) (fun c231 => ?_)
        · replace q228 := if_t c231 q228
          conv => whnf
          replace q228 := bind_some q228
          obtain ⟨y232, q233, q228⟩ := q228
          refine PureP.mono (ref03_Same_walk y195.1 y197.1 y232 q233) ?_
          rintro _ rfl
          conv => whnf
          refine cond_mk (fun c234 => ?_) (fun c234 => ?_)
          · replace q228 := if_t c234 q228
            conv => whnf
            replace q228 := bind_some q228
            obtain ⟨y235, q236, q228⟩ := q228
            refine PureP.mono (ref03_Same_walk y207.1 y209.1 y235 q236) ?_
            rintro _ rfl
            conv => whnf
            obtain rfl := Option.some.inj q228
            exact ⟨rfl, weak_fin _ rfl rfl rfl (.cons (.same rfl) (.cons (.gone) (.cons (.gone) (.cons (.gone) (.cons (.gone) (.cons (.gone) (.cons (.same rfl) (.cons (.same rfl) (LeH.rest))))))))) (.cons (.one (.same rfl)) (.cons (.one (.same rfl)) (.cons (.one (.same rfl)) (.cons (.one (.same rfl)) (.cons (.one (.same rfl)) (.cons (.one (.same rfl)) (.cons (.one (.same rfl)) (.cons (.one (.same rfl)) (.cons (.one (.same rfl)) (.cons (.one (.same rfl)) (.cons (.one (.same rfl)) (.cons (.one (.same rfl)) (.cons (.one (.same rfl)) (.cons (.one (.same rfl)) (.cons (.one (.same rfl)) (.cons (.one (.same rfl)) (.nil))))))))))))))))) rfl rfl⟩
          · replace q228 := if_f c234 q228
            conv => whnf
            obtain rfl := Option.some.inj q228
            exact ⟨rfl, weak_fin _ rfl rfl rfl (.cons (.same rfl) (.cons (.gone) (.cons (.gone) (.cons (.gone) (.cons (.gone) (.cons (.gone) (.cons (.same rfl) (.cons (.same rfl) (LeH.rest))))))))) (.cons (.one (.same rfl)) (.cons (.one (.same rfl)) (.cons (.one (.same rfl)) (.cons (.one (.same rfl)) (.cons (.one (.same rfl)) (.cons (.one (.same rfl)) (.cons (.one (.same rfl)) (.cons (.one (.same rfl)) (.cons (.one (.same rfl)) (.cons (.one (.same rfl)) (.cons (.one (.same rfl)) (.cons (.one (.same rfl)) (.cons (.one (.same rfl)) (.cons (.one (.same rfl)) (.cons (.one (.same rfl)) (.cons (.one (.same rfl)) (.nil))))))))))))))))) rfl rfl⟩
        · replace q228 := if_f c231 q228
          conv => whnf
          obtain rfl := Option.some.inj q228
          exact ⟨rfl, weak_fin _ rfl rfl rfl (.cons (.same rfl) (.cons (.gone) (.cons (.gone) (.cons (.gone) (.cons (.gone) (.cons (.gone) (.cons (.same rfl) (.cons (.same rfl) (LeH.rest))))))))) (.cons (.one (.same rfl)) (.cons (.one (.same rfl)) (.cons (.one (.same rfl)) (.cons (.one (.same rfl)) (.cons (.one (.same rfl)) (.cons (.one (.same rfl)) (.cons (.one (.same rfl)) (.cons (.one (.same rfl)) (.cons (.one (.same rfl)) (.cons (.one (.same rfl)) (.cons (.one (.same rfl)) (.cons (.one (.same rfl)) (.cons (.one (.same rfl)) (.cons (.one (.same rfl)) (.cons (.one (.same rfl)) (.cons (.one (.same rfl)) (.nil))))))))))))))))) rfl rfl⟩
      · rintro ex S' ⟨rfl, w237⟩
        conv => whnf
        refine Tri.weak w237 ?_
        refine Tri.seqK ?_
        refine Tri.run (G := gm_law03_DiskActs) tyOk mixed ?_
        conv => whnf
        refine cond_mk (fun c238 => ?_) (fun c238 => ?_)
        · replace h := if_t c238 h
          conv => whnf
          refine cond_mk (fun c239 => ?_) (fun c239 => ?_)
          · replace h := if_t c239 h
            conv => whnf
            refine cond_mk (fun c240 => ?_) (fun c240 => ?_)
            · replace h := if_t c240 h
              conv => whnf
              refine cond_mk (fun c241 => ?_) (fun c241 => ?_)
              · replace h := if_t c241 h
                conv => whnf
                refine ⟨⟨(decide (y199.1 = y201.1)), bs_eq _ _, ?_⟩⟩
                conv => whnf
                refine cond_mk (fun c242 => ?_) (fun c242 => ?_)
                · replace h := if_t c242 h
                  conv => whnf
                  refine cond_mk (fun c243 => ?_) (fun c243 => ?_)
                  · replace h := if_t c243 h
                    conv => whnf
                    refine ⟨⟨(decide (y203.1 = y205.1)), eq_File _ _, ?_⟩⟩
                    conv => whnf
                    refine cond_mk (fun c244 => ?_) (fun c244 => ?_)
                    · replace h := if_t c244 h
                      conv => whnf
                      refine cond_mk (fun c245 => ?_) (fun c245 => ?_)
                      · replace h := if_t c245 h
                        conv => whnf
                        refine Tri.run (G := gm_law03_DiskActs) tyOk mixed ?_
                        conv => whnf
                        refine fin_here ?_
                        conv => whnf
                        obtain rfl := Option.some.inj h
                        rfl
                      · replace h := if_f c245 h
                        conv => whnf
                        refine Tri.run (G := gm_law03_DiskActs) tyOk mixed ?_
                        conv => whnf
                        refine fin_here ?_
                        conv => whnf
                        obtain rfl := Option.some.inj h
                        rfl
                    · replace h := if_f c244 h
                      conv => whnf
                      refine Tri.run (G := gm_law03_DiskActs) tyOk mixed ?_
                      conv => whnf
                      refine fin_here ?_
                      conv => whnf
                      obtain rfl := Option.some.inj h
                      rfl
                  · replace h := if_f c243 h
                    conv => whnf
                    refine Tri.run (G := gm_law03_DiskActs) tyOk mixed ?_
                    conv => whnf
                    refine fin_here ?_
                    conv => whnf
                    obtain rfl := Option.some.inj h
                    rfl
                · replace h := if_f c242 h
                  conv => whnf
                  refine Tri.run (G := gm_law03_DiskActs) tyOk mixed ?_
                  conv => whnf
                  refine fin_here ?_
                  conv => whnf
                  obtain rfl := Option.some.inj h
                  rfl
              · replace h := if_f c241 h
                conv => whnf
                refine Tri.run (G := gm_law03_DiskActs) tyOk mixed ?_
                conv => whnf
                refine fin_here ?_
                conv => whnf
                obtain rfl := Option.some.inj h
                rfl
            · replace h := if_f c240 h
              conv => whnf
              refine Tri.run (G := gm_law03_DiskActs) tyOk mixed ?_
              conv => whnf
              refine fin_here ?_
              conv => whnf
              obtain rfl := Option.some.inj h
              rfl
          · replace h := if_f c239 h
            conv => whnf
            refine Tri.run (G := gm_law03_DiskActs) tyOk mixed ?_
            conv => whnf
            refine fin_here ?_
            conv => whnf
            obtain rfl := Option.some.inj h
            rfl
        · replace h := if_f c238 h
          conv => whnf
          refine Tri.run (G := gm_law03_DiskActs) tyOk mixed ?_
          conv => whnf
          refine fin_here ?_
          conv => whnf
          obtain rfl := Option.some.inj h
          rfl
noncomputable def slices_Equal_File_l2 (s1 : (List File)) (s2 : (List File)) (a114 : Int) : Option ((Int) ⊕ ((Unit) ⊕ (Unit))) :=
  if (decide (a114 < (s1.length : Int))) then
    (ix s1 a114).bind fun x137 =>
    (ix s2 a114).bind fun x139 =>
    if (!(decide (x137 = x139))) then
      some (.inr (.inl ()))
    else
      some (.inl (IntKind.i64.wrap (a114 + 1)))
  else
    some (.inr (.inr ()))
noncomputable def slices_Equal_File (s1 : (List File)) (s2 : (List File)) : Option (Bool) :=
  if (!(decide ((s1.length : Int) = (s2.length : Int)))) then
    some false
  else
    (loop (fun (s119 : Int) => slices_Equal_File_l2 s1 s2 s119) (0 : Int)).bind fun (y115 : (Unit) ⊕ (Unit)) =>
    match y115 with
    | (.inl v117) =>
      some false
    | (.inr v118) =>
      some true
def gm_slices_Equal_File : Gm := ⟨tys, [], [], []⟩
theorem slices_Equal_File_walk (s1 : (List File)) (s2 : (List File)) (r : Bool) (h : slices_Equal_File s1 s2 = some r) : PureP Try.prog 40 [.sl (List.map encFile s1), .sl (List.map encFile s2)] (fun a => a = .v (.bool r)) := by
  unfold slices_Equal_File at h
  refine pureW (G := gm_slices_Equal_File) tyOk Try.func40 rfl (by kernel_rfl) (by simp [Try.f40]) ?_
  refine Tri.seqK ?_
  refine Tri.run (G := gm_slices_Equal_File) tyOk mixed ?_
  conv => whnf
  refine Tri.seqK ?_
  refine Tri.seqK ?_
  refine Tri.run (G := gm_slices_Equal_File) tyOk mixed ?_
  conv => whnf
  refine ⟨⟨(s1.length : Int), (len_map _ _).symm, ?_⟩⟩
  conv => whnf
  refine ⟨⟨(s2.length : Int), (len_map _ _).symm, ?_⟩⟩
  conv => whnf
  refine Tri.cond rfl (fun c2 => ?_) (fun c2 => ?_)
  · replace h := if_t c2 h
    refine Tri.seqK ?_
    refine Tri.run (G := gm_slices_Equal_File) tyOk mixed ?_
    conv => whnf
    refine Tri.run (G := gm_slices_Equal_File) tyOk mixed ?_
    conv => whnf
    refine fin_here ?_
    conv => whnf
    obtain rfl := Option.some.inj h
    rfl
  · replace h := if_f c2 h
    refine Tri.run (G := gm_slices_Equal_File) tyOk mixed ?_
    conv => whnf
    refine Tri.seqK ?_
    refine Tri.seqK ?_
    refine Tri.run (G := gm_slices_Equal_File) tyOk mixed ?_
    conv => whnf
    refine ⟨⟨(s1.length : Int), (len_map _ _).symm, ?_⟩⟩
    conv => whnf
    refine Tri.block ?_
    replace h := bind_some h
    obtain ⟨y115, q116, h⟩ := h
    refine Tri.cut (fun ex S' => (∃ v117 : Unit, y115 = (.inl v117) ∧ ex = .ret ∧ Weak S' ⟨26, 0, ofRegs [(4, .v (.bool false))], []⟩) ∨ (∃ v118 : Unit, y115 = (.inr v118) ∧ ex = (.exit 0) ∧ Weak S' ⟨26, 0, ofRegs [], []⟩)) ?_ ?_
    · refine Tri.loopF (fun (s119 : Int) => (⟨26, 0, ofRegs [(0, .sl (List.map encFile s1)), (1, .sl (List.map encFile s2)), (12, .v (.int .i64 (s1.length : Int))), (13, .v (.int .i64 s119))], []⟩ : St)) q116 (weak_fin _ rfl rfl rfl (LeH.rest) (.cons (.one (.same rfl)) (.cons (.one (.same rfl)) (.cons (.one (.same rfl)) (.cons (.one (.same rfl)) (.nil))))) rfl rfl) ?_
      rintro a114 v120 hv r121
      have hv : slices_Equal_File_l2 s1 s2 a114 = some v120 := hv
      unfold slices_Equal_File_l2 at hv
      refine Tri.seqK ?_
      refine Tri.run (G := gm_slices_Equal_File) tyOk mixed ?_
      conv => whnf
      refine Tri.seqK ?_
      refine Tri.cond rfl (fun c123 => ?_) (fun c123 => ?_)
      · replace hv := if_t c123 hv
        refine Tri.run (G := gm_slices_Equal_File) tyOk mixed ?_
        conv => whnf
        refine Tri.seqK ?_
        refine Tri.block ?_
        refine Tri.seqK ?_
        refine Tri.run (G := gm_slices_Equal_File) tyOk mixed ?_
        conv => whnf
        refine Tri.seqK ?_
        refine Tri.run (G := gm_slices_Equal_File) tyOk mixed ?_
        conv => whnf
        refine Draw.one 9 (.take 0 (.take 1 (.take 2 (.take 3 (.take 4 (.take 5 (.take 6 (.take 7 (.take 8 (.fin)))))))))) [] (by kernel_rfl) ?_
        conv => whnf
        replace hv := bind_some hv
        obtain ⟨x137, q138, hv⟩ := hv
        refine ⟨(ix_some q138).1, ?_⟩
        conv => whnf
        refine ⟨⟨_, map_get encFile (ix_some q138).2, ?_⟩⟩
        conv => whnf
        refine ⟨rfl, ?_⟩
        conv => whnf
        replace hv := bind_some hv
        obtain ⟨x139, q140, hv⟩ := hv
        refine ⟨(ix_some q140).1, ?_⟩
        conv => whnf
        refine ⟨⟨_, map_get encFile (ix_some q140).2, ?_⟩⟩
        conv => whnf
        refine ⟨rfl, ?_⟩
        conv => whnf
        refine ⟨⟨(!(decide (x137 = x139))), congrArg Bool.not (eq_File _ _), ?_⟩⟩
        conv => whnf
        refine Tri.cond rfl (fun c141 => ?_) (fun c141 => ?_)
        · replace hv := if_t c141 hv
          refine Tri.seqK ?_
          refine Tri.run (G := gm_slices_Equal_File) tyOk mixed ?_
          conv => whnf
          refine Tri.run (G := gm_slices_Equal_File) tyOk mixed ?_
          conv => whnf
          obtain rfl := Option.some.inj hv
          obtain rfl := r121 _ rfl
          exact Or.inl ⟨_, rfl, rfl, weak_fin _ rfl rfl rfl (LeH.rest) (.cons (.one (.same rfl)) (.nil)) rfl rfl⟩
        · replace hv := if_f c141 hv
          refine Tri.run (G := gm_slices_Equal_File) tyOk mixed ?_
          conv => whnf
          refine Tri.run (G := gm_slices_Equal_File) tyOk mixed ?_
          conv => whnf
          obtain rfl := Option.some.inj hv
          exact ⟨_, rfl, weak_fin _ rfl rfl rfl (LeH.rest) (.cons (.one (.same rfl)) (.cons (.one (.same rfl)) (.cons (.one (.same rfl)) (.cons (.one (.same rfl)) (.nil))))) rfl rfl⟩
      · replace hv := if_f c123 hv
        refine Tri.run (G := gm_slices_Equal_File) tyOk mixed ?_
        conv => whnf
        obtain rfl := Option.some.inj hv
        obtain rfl := r121 _ rfl
        exact Or.inr (⟨_, rfl, rfl, weak_fin _ rfl rfl rfl (LeH.rest) (.nil) rfl rfl⟩)
    · rintro ex S' (⟨v117, rfl, rfl, w142⟩ | ⟨v118, rfl, rfl, w142⟩)
      · dsimp only at h
        conv => whnf
        refine fin_pre w142 ?_
        conv => whnf
        obtain rfl := Option.some.inj h
        rfl
      · dsimp only at h
        conv => whnf
        refine Tri.weak w142 ?_
        refine Tri.seqK ?_
        refine Tri.run (G := gm_slices_Equal_File) tyOk mixed ?_
        conv => whnf
        refine Tri.run (G := gm_slices_Equal_File) tyOk mixed ?_
        conv => whnf
        refine fin_here ?_
        conv => whnf
        obtain rfl := Option.some.inj h
        rfl
noncomputable def disk_Same (a : Disk) (b : Disk) : Option (Bool) :=
  if (decide (a.Room = b.Room)) then
    if (decide (a.Fuse = b.Fuse)) then
      if (a.Off == b.Off) then
        (slices_Equal_File a.Files b.Files).bind fun y4 =>
        some y4
      else
        some false
    else
      some false
  else
    some false
def gm_disk_Same : Gm := ⟨tys, [], [], []⟩
theorem disk_Same_walk (a : Disk) (b : Disk) (r : Bool) (h : disk_Same a b = some r) : PureP Try.prog 24 [.agg [.sl (List.map encFile a.Files), .v (.int .i64 a.Room), .v (.int .i64 a.Fuse), .v (.bool a.Off)], .agg [.sl (List.map encFile b.Files), .v (.int .i64 b.Room), .v (.int .i64 b.Fuse), .v (.bool b.Off)]] (fun a => a = .v (.bool r)) := by
  unfold disk_Same at h
  refine pureW (G := gm_disk_Same) tyOk Try.func24 rfl (by kernel_rfl) (by simp [Try.f24]) ?_
  refine Tri.seqK ?_
  refine Tri.run (G := gm_disk_Same) tyOk mixed ?_
  conv => whnf
  refine Tri.seqK ?_
  refine Tri.run (G := gm_disk_Same) tyOk mixed ?_
  conv => whnf
  refine cond_mk (fun c1 => ?_) (fun c1 => ?_)
  · replace h := if_t c1 h
    conv => whnf
    refine cond_mk (fun c2 => ?_) (fun c2 => ?_)
    · replace h := if_t c2 h
      conv => whnf
      refine cond_mk (fun c3 => ?_) (fun c3 => ?_)
      · replace h := if_t c3 h
        conv => whnf
        replace h := bind_some h
        obtain ⟨y4, q5, h⟩ := h
        refine PureP.mono (slices_Equal_File_walk a.Files b.Files y4 q5) ?_
        rintro _ rfl
        conv => whnf
        refine Tri.run (G := gm_disk_Same) tyOk mixed ?_
        conv => whnf
        refine fin_here ?_
        conv => whnf
        obtain rfl := Option.some.inj h
        rfl
      · replace h := if_f c3 h
        conv => whnf
        refine Tri.run (G := gm_disk_Same) tyOk mixed ?_
        conv => whnf
        refine fin_here ?_
        conv => whnf
        obtain rfl := Option.some.inj h
        rfl
    · replace h := if_f c2 h
      conv => whnf
      refine Tri.run (G := gm_disk_Same) tyOk mixed ?_
      conv => whnf
      refine fin_here ?_
      conv => whnf
      obtain rfl := Option.some.inj h
      rfl
  · replace h := if_f c1 h
    conv => whnf
    refine Tri.run (G := gm_disk_Same) tyOk mixed ?_
    conv => whnf
    refine fin_here ?_
    conv => whnf
    obtain rfl := Option.some.inj h
    rfl
noncomputable def law03_DiskTwice (with_ : DiskTwiceIn) : Option (Bool) :=
  law03_shown.bind fun y1 =>
  (disk_Crash with_.D with_.Keeps).bind fun y3 =>
  (disk_Sync with_.D with_.Name).bind fun y5 =>
  (disk_Sync y5.1 with_.Name).bind fun y7 =>
  if y1 then
    (disk_Crash y3 with_.More).bind fun y19 =>
    (disk_Same y3 y19).bind fun y21 =>
    if y21 then
      if (decide (y5.2 = y7.2)) then
        (disk_Same y5.1 y7.1).bind fun y25 =>
        some y25
      else
        some false
    else
      some false
  else
    some false
def gm_law03_DiskTwice : Gm := ⟨tys, [], [], []⟩
theorem law03_DiskTwice_walk (with_ : DiskTwiceIn) (r : Bool) (h : law03_DiskTwice with_ = some r) : PureP Try.prog 4 [.agg [.sl (List.map encFile with_.D.Files), .v (.int .i64 with_.D.Room), .v (.int .i64 with_.D.Fuse), .v (.bool with_.D.Off), .sl (List.map (encI .i64) with_.Keeps), .sl (List.map (encI .i64) with_.More), .v (.string (bs with_.Name))]] (fun a => a = .v (.bool r)) := by
  unfold law03_DiskTwice at h
  refine pureW (G := gm_law03_DiskTwice) tyOk Try.func4 rfl (by kernel_rfl) (by simp [Try.f4]) ?_
  refine Tri.seqK ?_
  refine Tri.run (G := gm_law03_DiskTwice) tyOk mixed ?_
  conv => whnf
  refine Tri.seqK ?_
  refine Tri.run (G := gm_law03_DiskTwice) tyOk mixed ?_
  conv => whnf
  refine Tri.seqK ?_
  refine Tri.run (G := gm_law03_DiskTwice) tyOk mixed ?_
  conv => whnf
  refine Tri.seqK ?_
  refine Tri.run (G := gm_law03_DiskTwice) tyOk mixed ?_
  conv => whnf
  refine Tri.seqK ?_
  refine Tri.run (G := gm_law03_DiskTwice) tyOk mixed ?_
  conv => whnf
  refine Tri.seqK ?_
  refine Tri.run (G := gm_law03_DiskTwice) tyOk mixed ?_
  conv => whnf
  replace h := bind_some h
  obtain ⟨y1, q2, h⟩ := h
  refine PureP.mono (law03_shown_walk y1 q2) ?_
  rintro _ rfl
  conv => whnf
  refine Tri.seqK ?_
  refine Tri.run (G := gm_law03_DiskTwice) tyOk mixed ?_
  conv => whnf
  replace h := bind_some h
  obtain ⟨y3, q4, h⟩ := h
  refine PureP.mono (disk_Crash_walk with_.D with_.Keeps y3 q4) ?_
  rintro _ rfl
  conv => whnf
  refine Tri.seqK ?_
  refine Tri.run (G := gm_law03_DiskTwice) tyOk mixed ?_
  conv => whnf
  replace h := bind_some h
  obtain ⟨y5, q6, h⟩ := h
  refine PureP.mono (disk_Sync_walk with_.D with_.Name y5 q6) ?_
  rintro _ rfl
  conv => whnf
  refine Tri.seqK ?_
  refine Tri.run (G := gm_law03_DiskTwice) tyOk mixed ?_
  conv => whnf
  replace h := bind_some h
  obtain ⟨y7, q8, h⟩ := h
  refine PureP.mono (disk_Sync_walk y5.1 with_.Name y7 q8) ?_
  rintro _ rfl
  conv => whnf
  refine Tri.seqK ?_
  refine Tri.run (G := gm_law03_DiskTwice) tyOk mixed ?_
  conv => whnf
  refine Draw.one 19 (.take 0 (.take 1 (.take 2 (.take 3 (.take 4 (.alt 5 (.alt 6 (.take 7 (.take 8 (.take 9 (.take 10 (.take 11 (.take 12 (.take 13 (.take 14 (.take 15 (.alt 16 (.take 17 (.take 18 (.fin))) (.nil))))))))))) (.nil)) (.nil))))))) [] (by kernel_rfl) ?_
  conv => whnf
  refine cond_mk (fun c18 => ?_) (fun c18 => ?_)
  · replace h := if_t c18 h
    conv => whnf
    refine ⟨?_, ?_⟩
    · conv => whnf
      replace h := bind_some h
      obtain ⟨y19, q20, h⟩ := h
      refine PureP.mono (disk_Crash_walk y3 with_.More y19 q20) ?_
      rintro _ rfl
      conv => whnf
      refine ⟨?_, ?_⟩
      · conv => whnf
        replace h := bind_some h
        obtain ⟨y21, q22, h⟩ := h
        refine PureP.mono (disk_Same_walk y3 y19 y21 q22) ?_
        rintro _ rfl
        conv => whnf
        refine cond_mk (fun c23 => ?_) (fun c23 => ?_)
        · replace h := if_t c23 h
          conv => whnf
          refine cond_mk (fun c24 => ?_) (fun c24 => ?_)
          · replace h := if_t c24 h
            conv => whnf
            refine ⟨?_, ?_⟩
            · conv => whnf
              replace h := bind_some h
              obtain ⟨y25, q26, h⟩ := h
              refine PureP.mono (disk_Same_walk y5.1 y7.1 y25 q26) ?_
              rintro _ rfl
              conv => whnf
              refine Tri.run (G := gm_law03_DiskTwice) tyOk mixed ?_
              conv => whnf
              refine fin_here ?_
              conv => whnf
              obtain rfl := Option.some.inj h
              rfl
            · conv => whnf
              trivial
          · replace h := if_f c24 h
            conv => whnf
            refine ⟨?_, ?_⟩
            · conv => whnf
              refine Tri.run (G := gm_law03_DiskTwice) tyOk mixed ?_
              conv => whnf
              refine fin_here ?_
              conv => whnf
              obtain rfl := Option.some.inj h
              rfl
            · conv => whnf
              trivial
        · replace h := if_f c23 h
          conv => whnf
          refine ⟨?_, ?_⟩
          · conv => whnf
            refine Tri.run (G := gm_law03_DiskTwice) tyOk mixed ?_
            conv => whnf
            refine fin_here ?_
            conv => whnf
            obtain rfl := Option.some.inj h
            rfl
          · conv => whnf
            trivial
      · conv => whnf
        trivial
    · conv => whnf
      trivial
  · replace h := if_f c18 h
    conv => whnf
    refine ⟨?_, ?_⟩
    · conv => whnf
      refine ⟨?_, ?_⟩
      · conv => whnf
        refine ⟨?_, ?_⟩
        · conv => whnf
          refine Tri.run (G := gm_law03_DiskTwice) tyOk mixed ?_
          conv => whnf
          refine fin_here ?_
          conv => whnf
          obtain rfl := Option.some.inj h
          rfl
        · conv => whnf
          trivial
      · conv => whnf
        trivial
    · conv => whnf
      trivial
noncomputable def disk_change (d : Disk) : Option (Disk × Bool) :=
  (
    if (decide (d.Fuse = 0)) then
      some (.inr ())
    else
      if (decide (d.Fuse > 0)) then
        some (.inl (IntKind.i64.wrap (d.Fuse - 1)))
      else
        some (.inl d.Fuse)).bind fun (y5 : (Int) ⊕ (Unit)) =>
  match y5 with
  | (.inl v7) =>
    some (({ Files := d.Files, Room := d.Room, Fuse := v7, Off := d.Off } : Disk), true)
  | (.inr v8) =>
    some (({ Files := d.Files, Room := d.Room, Fuse := d.Fuse, Off := true } : Disk), false)
def gm_disk_change : Gm := ⟨tys, [], [], []⟩
theorem disk_change_walk (d : Disk) (r : Disk × Bool) (h : disk_change d = some r) : PureP Try.prog 41 [.agg [.sl (List.map encFile d.Files), .v (.int .i64 d.Room), .v (.int .i64 d.Fuse), .v (.bool d.Off)]] (fun a => a = .tup [.agg [.sl (List.map encFile r.1.Files), .v (.int .i64 r.1.Room), .v (.int .i64 r.1.Fuse), .v (.bool r.1.Off)], .v (.bool r.2)]) := by
  unfold disk_change at h
  refine pureW (G := gm_disk_change) tyOk Try.func41 rfl (by kernel_rfl) (by simp [Try.f41]) ?_
  refine Tri.seqK ?_
  refine Tri.run (G := gm_disk_change) tyOk mixed ?_
  conv => whnf
  refine Tri.seqK ?_
  replace h := bind_some h
  obtain ⟨y5, q6, h⟩ := h
  refine Tri.cut (fun ex S' => (∃ v7 : Int, y5 = (.inl v7) ∧ ex = .normal ∧ Weak S' ⟨19, 0, ofRegs [(1, .ptr 0 0), (2, .ptr 1 0)], [.var 24 [.sl (List.map encFile d.Files), .v (.int .i64 d.Room), .v (.int .i64 v7), .v (.bool d.Off)], .var 24 [.v (.slice none 0 0), .v (.int .i64 0), .v (.int .i64 0), .v (.bool false)]]⟩) ∨ (∃ v8 : Unit, y5 = (.inr v8) ∧ ex = .ret ∧ Weak S' ⟨19, 0, ofRegs [(2, .ptr 1 0), (3, .v (.bool false))], [.gone, .var 24 [.sl (List.map encFile d.Files), .v (.int .i64 d.Room), .v (.int .i64 d.Fuse), .v (.bool true)]]⟩)) ?_ ?_
  · refine Tri.block ?_
    refine Tri.seqK ?_
    refine Tri.run (G := gm_disk_change) tyOk mixed ?_
    conv => whnf
    refine Tri.cond rfl (fun c9 => ?_) (fun c9 => ?_)
    · replace q6 := if_t c9 q6
      refine Tri.seqK ?_
      refine Tri.run (G := gm_disk_change) tyOk mixed ?_
      conv => whnf
      refine Tri.seqK ?_
      refine Tri.run (G := gm_disk_change) tyOk mixed ?_
      conv => whnf
      refine Tri.run (G := gm_disk_change) tyOk mixed ?_
      conv => whnf
      obtain rfl := Option.some.inj q6
      exact Or.inr (⟨_, rfl, rfl, weak_fin _ rfl rfl rfl (.cons (.gone) (.cons (.same rfl) (LeH.rest))) (.cons (.one (.same rfl)) (.cons (.one (.same rfl)) (.nil))) rfl rfl⟩)
    · replace q6 := if_f c9 q6
      refine Tri.seqK ?_
      refine Tri.run (G := gm_disk_change) tyOk mixed ?_
      conv => whnf
      refine Tri.cond rfl (fun c10 => ?_) (fun c10 => ?_)
      · replace q6 := if_t c10 q6
        refine Tri.run (G := gm_disk_change) tyOk mixed ?_
        conv => whnf
        obtain rfl := Option.some.inj q6
        exact Or.inl ⟨_, rfl, rfl, weak_fin _ rfl rfl rfl (.cons (.same rfl) (.cons (.same rfl) (LeH.rest))) (.cons (.one (.same rfl)) (.cons (.one (.same rfl)) (.nil))) rfl rfl⟩
      · replace q6 := if_f c10 q6
        refine Tri.run (G := gm_disk_change) tyOk mixed ?_
        conv => whnf
        obtain rfl := Option.some.inj q6
        exact Or.inl ⟨_, rfl, rfl, weak_fin _ rfl rfl rfl (.cons (.same rfl) (.cons (.same rfl) (LeH.rest))) (.cons (.one (.same rfl)) (.cons (.one (.same rfl)) (.nil))) rfl rfl⟩
  · rintro ex S' (⟨v7, rfl, rfl, w11⟩ | ⟨v8, rfl, rfl, w11⟩)
    · dsimp only at h
      conv => whnf
      refine Tri.weak w11 ?_
      refine Tri.seqK ?_
      refine Tri.run (G := gm_disk_change) tyOk mixed ?_
      conv => whnf
      refine Tri.run (G := gm_disk_change) tyOk mixed ?_
      conv => whnf
      refine fin_here ?_
      conv => whnf
      obtain rfl := Option.some.inj h
      rfl
    · dsimp only at h
      conv => whnf
      refine fin_pre w11 ?_
      conv => whnf
      obtain rfl := Option.some.inj h
      rfl
noncomputable def disk_without (d : Disk) (i : Int) : Option (Disk) :=
  (ix d.Files i).bind fun x5 =>
  (disk_size x5).bind fun y7 =>
  need (d.Files.length * 48 ≤ 140737488355328) <|
  need (0 ≤ i ∧ i ≤ (IntKind.i64.wrap (i + 1)) ∧ (IntKind.i64.wrap (i + 1)) ≤ (d.Files.length : Int) ∧ (d.Files.length : Int) < 4611686018427387904 ∧ 0 < d.Files.length) <|
  some ({ Files := (List.take i.toNat d.Files ++ List.drop (IntKind.i64.wrap (i + 1)).toNat d.Files), Room := (IntKind.i64.wrap (d.Room + y7)), Fuse := d.Fuse, Off := d.Off } : Disk)
def gm_disk_without : Gm := ⟨tys, [47], [(35, 29, 3)], [47]⟩
theorem disk_without_walk (d : Disk) (i : Int) (r : Disk) (h : disk_without d i = some r) : PureP Try.prog 42 [.agg [.sl (List.map encFile d.Files), .v (.int .i64 d.Room), .v (.int .i64 d.Fuse), .v (.bool d.Off)], .v (.int .i64 i)] (fun a => a = .agg [.sl (List.map encFile r.Files), .v (.int .i64 r.Room), .v (.int .i64 r.Fuse), .v (.bool r.Off)]) := by
  unfold disk_without at h
  refine pureW (G := gm_disk_without) tyOk Try.func42 rfl (by kernel_rfl) (by simp [Try.f42]) ?_
  refine Tri.seqK ?_
  refine Tri.run (G := gm_disk_without) tyOk mixed ?_
  conv => whnf
  refine Tri.seqK ?_
  refine Tri.run (G := gm_disk_without) tyOk mixed ?_
  conv => whnf
  refine Draw.one 10 (.take 0 (.take 1 (.take 2 (.take 3 (.take 4 (.take 5 (.take 6 (.alt 7 (.take 8 (.take 9 (.fin))) (.nil))))))))) [] (by kernel_rfl) ?_
  conv => whnf
  replace h := bind_some h
  obtain ⟨x5, q6, h⟩ := h
  refine ⟨(ix_some q6).1, ?_⟩
  conv => whnf
  refine ⟨⟨_, map_get encFile (ix_some q6).2, ?_⟩⟩
  conv => whnf
  refine ⟨rfl, ?_⟩
  conv => whnf
  refine ⟨?_, ?_⟩
  · conv => whnf
    replace h := bind_some h
    obtain ⟨y7, q8, h⟩ := h
    refine PureP.mono (disk_size_walk x5 y7 q8) ?_
    rintro _ rfl
    conv => whnf
    refine Tri.seqK ?_
    refine Tri.run (G := gm_disk_without) tyOk mixed ?_
    conv => whnf
    replace h := need_some h
    obtain ⟨p9, h⟩ := h
    refine FreshP.mono (clone_35 d.Files p9) ?_
    rintro _ rfl
    conv => whnf
    refine ⟨rfl, ?_⟩
    conv => whnf
    replace h := need_some h
    obtain ⟨p10, h⟩ := h
    refine EatP.mono (delete_47 d.Files i (IntKind.i64.wrap (i + 1)) p10) ?_
    rintro _ rfl
    conv => whnf
    refine Tri.seqK ?_
    refine Tri.run (G := gm_disk_without) tyOk mixed ?_
    conv => whnf
    refine Tri.run (G := gm_disk_without) tyOk mixed ?_
    conv => whnf
    refine fin_here ?_
    conv => whnf
    refine ⟨rfl, ?_⟩
    conv => whnf
    obtain rfl := Option.some.inj h
    rfl
  · conv => whnf
    trivial
noncomputable def disk_Rename (d : Disk) (from_ : Str) (to : Str) : Option (Disk × Int) :=
  if d.Off then
    some (d, 6)
  else
    (disk_named to).bind fun y10 =>
    if (!y10) then
      some (d, 1)
    else
      (disk_at d from_).bind fun y13 =>
      if (decide (y13 < 0)) then
        some (d, 7)
      else
        if (decide (from_ = to)) then
          some (d, 0)
        else
          (disk_change d).bind fun y17 =>
          if (!y17.2) then
            some (y17.1, 6)
          else
            (
              (disk_at y17.1 to).bind fun y33 =>
              if (decide (y33 ≥ 0)) then
                (disk_without y17.1 y33).bind fun y36 =>
                some (y36.Files, y36.Room, y36.Fuse, y36.Off)
              else
                some (y17.1.Files, y17.1.Room, y17.1.Fuse, y17.1.Off)).bind fun (y31 : (List File) × Int × Int × Bool) =>
            (disk_at ({ Files := y31.1, Room := y31.2.1, Fuse := y31.2.2.1, Off := y31.2.2.2 } : Disk) from_).bind fun y39 =>
            (ix y31.1 y39).bind fun x41 =>
            (disk_set_File y31.1 y39 ({ Name := to, Safe := x41.Safe, Wait := x41.Wait } : File)).bind fun y43 =>
            some (({ Files := y43, Room := y31.2.1, Fuse := y31.2.2.1, Off := y31.2.2.2 } : Disk), 0)
def gm_disk_Rename : Gm := ⟨tys, [], [], []⟩
theorem disk_Rename_walk (d : Disk) (from_ : Str) (to : Str) (r : Disk × Int) (h : disk_Rename d from_ to = some r) : PureP Try.prog 26 [.agg [.sl (List.map encFile d.Files), .v (.int .i64 d.Room), .v (.int .i64 d.Fuse), .v (.bool d.Off)], .v (.string (bs from_)), .v (.string (bs to))] (fun a => a = .tup [.agg [.sl (List.map encFile r.1.Files), .v (.int .i64 r.1.Room), .v (.int .i64 r.1.Fuse), .v (.bool r.1.Off)], .v (.int .i64 r.2)]) := by
  unfold disk_Rename at h
  refine pureW (G := gm_disk_Rename) tyOk Try.func26 rfl (by kernel_rfl) (by simp [Try.f26]) ?_
  refine Tri.seqK ?_
  refine Tri.run (G := gm_disk_Rename) tyOk mixed ?_
  conv => whnf
  refine Tri.seqK ?_
  refine Tri.block ?_
  refine Tri.seqK ?_
  refine Tri.run (G := gm_disk_Rename) tyOk mixed ?_
  conv => whnf
  refine Tri.cond rfl (fun c9 => ?_) (fun c9 => ?_)
  · replace h := if_t c9 h
    refine Tri.seqK ?_
    refine Tri.run (G := gm_disk_Rename) tyOk mixed ?_
    conv => whnf
    refine Tri.run (G := gm_disk_Rename) tyOk mixed ?_
    conv => whnf
    refine fin_here ?_
    conv => whnf
    obtain rfl := Option.some.inj h
    rfl
  · replace h := if_f c9 h
    refine Tri.seqK ?_
    refine Tri.run (G := gm_disk_Rename) tyOk mixed ?_
    conv => whnf
    replace h := bind_some h
    obtain ⟨y10, q11, h⟩ := h
    refine PureP.mono (disk_named_walk to y10 q11) ?_
    rintro _ rfl
    conv => whnf
    refine Tri.cond rfl (fun c12 => ?_) (fun c12 => ?_)
    · replace h := if_t c12 h
      refine Tri.seqK ?_
      refine Tri.run (G := gm_disk_Rename) tyOk mixed ?_
      conv => whnf
      refine Tri.run (G := gm_disk_Rename) tyOk mixed ?_
      conv => whnf
      refine fin_here ?_
      conv => whnf
      obtain rfl := Option.some.inj h
      rfl
    · replace h := if_f c12 h
      refine Tri.seqK ?_
      refine Tri.run (G := gm_disk_Rename) tyOk mixed ?_
      conv => whnf
      replace h := bind_some h
      obtain ⟨y13, q14, h⟩ := h
      refine PureP.mono (disk_at_walk d from_ y13 q14) ?_
      rintro _ rfl
      conv => whnf
      refine Tri.cond rfl (fun c15 => ?_) (fun c15 => ?_)
      · replace h := if_t c15 h
        refine Tri.seqK ?_
        refine Tri.run (G := gm_disk_Rename) tyOk mixed ?_
        conv => whnf
        refine Tri.run (G := gm_disk_Rename) tyOk mixed ?_
        conv => whnf
        refine fin_here ?_
        conv => whnf
        obtain rfl := Option.some.inj h
        rfl
      · replace h := if_f c15 h
        refine Tri.seqK ?_
        refine Tri.run (G := gm_disk_Rename) tyOk mixed ?_
        conv => whnf
        refine ⟨⟨(decide (from_ = to)), bs_eq _ _, ?_⟩⟩
        conv => whnf
        refine Tri.cond rfl (fun c16 => ?_) (fun c16 => ?_)
        · replace h := if_t c16 h
          refine Tri.seqK ?_
          refine Tri.run (G := gm_disk_Rename) tyOk mixed ?_
          conv => whnf
          refine Tri.run (G := gm_disk_Rename) tyOk mixed ?_
          conv => whnf
          refine fin_here ?_
          conv => whnf
          obtain rfl := Option.some.inj h
          rfl
        · replace h := if_f c16 h
          refine Tri.run (G := gm_disk_Rename) tyOk mixed ?_
          conv => whnf
          refine Tri.seqK ?_
          refine Tri.run (G := gm_disk_Rename) tyOk mixed ?_
          conv => whnf
          replace h := bind_some h
          obtain ⟨y17, q18, h⟩ := h
          refine PureP.mono (disk_change_walk d y17 q18) ?_
          rintro _ rfl
          conv => whnf
          refine Tri.seqK ?_
          refine Tri.seqK ?_
          refine Tri.run (G := gm_disk_Rename) tyOk mixed ?_
          conv => whnf
          refine Tri.cond rfl (fun c20 => ?_) (fun c20 => ?_)
          · replace h := if_t c20 h
            refine Tri.seqK ?_
            refine Tri.run (G := gm_disk_Rename) tyOk mixed ?_
            conv => whnf
            refine Tri.run (G := gm_disk_Rename) tyOk mixed ?_
            conv => whnf
            refine fin_here ?_
            conv => whnf
            obtain rfl := Option.some.inj h
            rfl
          · replace h := if_f c20 h
            refine Tri.run (G := gm_disk_Rename) tyOk mixed ?_
            conv => whnf
            refine Tri.seqK ?_
            replace h := bind_some h
            obtain ⟨y31, q32, h⟩ := h
            refine Tri.cut (fun ex S' => ex = .normal ∧ Weak S' ⟨65, 0, ofRegs [(1, .v (.string (bs from_))), (2, .v (.string (bs to))), (3, .ptr 0 0), (6, .ptr 1 0)], [.var 24 [.sl (List.map encFile y31.1), .v (.int .i64 y31.2.1), .v (.int .i64 y31.2.2.1), .v (.bool y31.2.2.2)], .var 24 [.v (.slice none 0 0), .v (.int .i64 0), .v (.int .i64 0), .v (.bool false)]]⟩) ?_ ?_
            · refine Tri.seqK ?_
              refine Tri.run (G := gm_disk_Rename) tyOk mixed ?_
              conv => whnf
              replace q32 := bind_some q32
              obtain ⟨y33, q34, q32⟩ := q32
              refine PureP.mono (disk_at_walk y17.1 to y33 q34) ?_
              rintro _ rfl
              conv => whnf
              refine Tri.seqK ?_
              refine Tri.run (G := gm_disk_Rename) tyOk mixed ?_
              conv => whnf
              refine Tri.cond rfl (fun c35 => ?_) (fun c35 => ?_)
              · replace q32 := if_t c35 q32
                refine Tri.run (G := gm_disk_Rename) tyOk mixed ?_
                conv => whnf
                replace q32 := bind_some q32
                obtain ⟨y36, q37, q32⟩ := q32
                refine PureP.mono (disk_without_walk y17.1 y33 y36 q37) ?_
                rintro _ rfl
                conv => whnf
                obtain rfl := Option.some.inj q32
                exact ⟨rfl, weak_fin _ rfl rfl rfl (.cons (.same rfl) (.cons (.same rfl) (LeH.rest))) (.cons (.one (.same rfl)) (.cons (.one (.same rfl)) (.cons (.one (.same rfl)) (.cons (.one (.same rfl)) (.nil))))) rfl rfl⟩
              · replace q32 := if_f c35 q32
                refine Tri.run (G := gm_disk_Rename) tyOk mixed ?_
                conv => whnf
                obtain rfl := Option.some.inj q32
                exact ⟨rfl, weak_fin _ rfl rfl rfl (.cons (.same rfl) (.cons (.same rfl) (LeH.rest))) (.cons (.one (.same rfl)) (.cons (.one (.same rfl)) (.cons (.one (.same rfl)) (.cons (.one (.same rfl)) (.nil))))) rfl rfl⟩
            · rintro ex S' ⟨rfl, w38⟩
              conv => whnf
              refine Tri.weak w38 ?_
              refine Tri.seqK ?_
              refine Tri.run (G := gm_disk_Rename) tyOk mixed ?_
              conv => whnf
              replace h := bind_some h
              obtain ⟨y39, q40, h⟩ := h
              refine PureP.mono (disk_at_walk ({ Files := y31.1, Room := y31.2.1, Fuse := y31.2.2.1, Off := y31.2.2.2 } : Disk) from_ y39 q40) ?_
              rintro _ rfl
              conv => whnf
              refine Tri.seqK ?_
              refine Tri.run (G := gm_disk_Rename) tyOk mixed ?_
              conv => whnf
              replace h := bind_some h
              obtain ⟨x41, q42, h⟩ := h
              refine ⟨(ix_some q42).1, ?_⟩
              conv => whnf
              refine ⟨⟨_, map_get encFile (ix_some q42).2, ?_⟩⟩
              conv => whnf
              refine ⟨rfl, ?_⟩
              conv => whnf
              refine Tri.seqK ?_
              refine Tri.run (G := gm_disk_Rename) tyOk mixed ?_
              conv => whnf
              refine Tri.seqK ?_
              refine Tri.run (G := gm_disk_Rename) tyOk mixed ?_
              conv => whnf
              replace h := bind_some h
              obtain ⟨y43, q44, h⟩ := h
              refine PureP.mono (disk_set_File_walk y31.1 y39 ({ Name := to, Safe := x41.Safe, Wait := x41.Wait } : File) y43 q44) ?_
              rintro _ rfl
              conv => whnf
              refine Tri.seqK ?_
              refine Tri.run (G := gm_disk_Rename) tyOk mixed ?_
              conv => whnf
              refine Tri.run (G := gm_disk_Rename) tyOk mixed ?_
              conv => whnf
              refine fin_here ?_
              conv => whnf
              obtain rfl := Option.some.inj h
              rfl
noncomputable def ref03_power (d : Disk) : Option (Disk × Bool) :=
  if (decide (d.Fuse = 0)) then
    some (({ Files := d.Files, Room := d.Room, Fuse := d.Fuse, Off := true } : Disk), false)
  else
    some (({ Files := d.Files, Room := d.Room, Fuse := (if (decide (d.Fuse > 0)) then (IntKind.i64.wrap (d.Fuse - 1)) else d.Fuse), Off := d.Off } : Disk), true)
def gm_ref03_power : Gm := ⟨tys, [], [], []⟩
theorem ref03_power_walk (d : Disk) (r : Disk × Bool) (h : ref03_power d = some r) : PureP Try.prog 43 [.agg [.sl (List.map encFile d.Files), .v (.int .i64 d.Room), .v (.int .i64 d.Fuse), .v (.bool d.Off)]] (fun a => a = .tup [.agg [.sl (List.map encFile r.1.Files), .v (.int .i64 r.1.Room), .v (.int .i64 r.1.Fuse), .v (.bool r.1.Off)], .v (.bool r.2)]) := by
  unfold ref03_power at h
  refine pureW (G := gm_ref03_power) tyOk Try.func43 rfl (by kernel_rfl) (by simp [Try.f43]) ?_
  refine Tri.seqK ?_
  refine Tri.run (G := gm_ref03_power) tyOk mixed ?_
  conv => whnf
  refine Tri.seqK ?_
  refine Tri.seqK ?_
  refine Tri.run (G := gm_ref03_power) tyOk mixed ?_
  conv => whnf
  refine Tri.cond rfl (fun c2 => ?_) (fun c2 => ?_)
  · replace h := if_t c2 h
    refine Tri.seqK ?_
    refine Tri.run (G := gm_ref03_power) tyOk mixed ?_
    conv => whnf
    refine Tri.seqK ?_
    refine Tri.run (G := gm_ref03_power) tyOk mixed ?_
    conv => whnf
    refine Tri.run (G := gm_ref03_power) tyOk mixed ?_
    conv => whnf
    refine fin_here ?_
    conv => whnf
    obtain rfl := Option.some.inj h
    rfl
  · replace h := if_f c2 h
    refine Tri.run (G := gm_ref03_power) tyOk mixed ?_
    conv => whnf
    refine Tri.seqK ?_
    refine Tri.cut (fun ex S' => ex = .normal ∧ Weak S' ⟨17, 0, ofRegs [(1, .ptr 0 0), (2, .ptr 1 0)], [.var 24 [.sl (List.map encFile d.Files), .v (.int .i64 d.Room), .v (.int .i64 (if (decide (d.Fuse > 0)) then (IntKind.i64.wrap (d.Fuse - 1)) else d.Fuse)), .v (.bool d.Off)], .var 24 [.v (.slice none 0 0), .v (.int .i64 0), .v (.int .i64 0), .v (.bool false)]]⟩) ?_ ?_
    · refine Tri.seqK ?_
      refine Tri.run (G := gm_ref03_power) tyOk mixed ?_
      conv => whnf
      refine Tri.cond rfl (fun c6 => ?_) (fun c6 => ?_)
      · replace c6 : (decide (d.Fuse > 0)) = true := c6
        refine Tri.run (G := gm_ref03_power) tyOk mixed ?_
        conv => whnf
        exact ⟨rfl, weak_fin _ rfl rfl rfl (.cons (.var (.cons (.same rfl) (.cons (.same rfl) (.cons (.same (show (.v (.int .i64 (IntKind.i64.wrap (d.Fuse - 1))) : AV) = (.v (.int .i64 (if (decide (d.Fuse > 0)) then (IntKind.i64.wrap (d.Fuse - 1)) else d.Fuse)) : AV) from by simp [c6])) (.cons (.same rfl) (.nil)))))) (.cons (.same rfl) (LeH.rest))) (.cons (.one (.same rfl)) (.cons (.one (.same rfl)) (.nil))) rfl rfl⟩
      · replace c6 : (decide (d.Fuse > 0)) = false := c6
        refine Tri.run (G := gm_ref03_power) tyOk mixed ?_
        conv => whnf
        exact ⟨rfl, weak_fin _ rfl rfl rfl (.cons (.var (.cons (.same rfl) (.cons (.same rfl) (.cons (.same (show (.v (.int .i64 d.Fuse) : AV) = (.v (.int .i64 (if (decide (d.Fuse > 0)) then (IntKind.i64.wrap (d.Fuse - 1)) else d.Fuse)) : AV) from by simp [c6])) (.cons (.same rfl) (.nil)))))) (.cons (.same rfl) (LeH.rest))) (.cons (.one (.same rfl)) (.cons (.one (.same rfl)) (.nil))) rfl rfl⟩
    · rintro ex S' ⟨rfl, w7⟩
      conv => whnf
      refine Tri.weak w7 ?_
      refine Tri.seqK ?_
      refine Tri.run (G := gm_ref03_power) tyOk mixed ?_
      conv => whnf
      refine Tri.run (G := gm_ref03_power) tyOk mixed ?_
      conv => whnf
      refine fin_here ?_
      conv => whnf
      obtain rfl := Option.some.inj h
      rfl
end Go.Ab
