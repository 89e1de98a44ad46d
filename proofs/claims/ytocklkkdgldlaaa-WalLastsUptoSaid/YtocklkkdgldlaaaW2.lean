/- The program's functions as plain Lean functions, and that the program comes to what they come to. Printed by a program of this session. -/
import Derived.Test.YtocklkkdgldlaaaW1
namespace Go.Ab
open Go.Proofs
set_option linter.unusedVariables false
set_option linter.unusedSimpArgs false
set_option maxRecDepth 100000
noncomputable def disk_Delete (d : Disk) (name : Str) : Option (Disk × Int) :=
  if d.Off then
    some (d, 6)
  else
    (disk_at d name).bind fun y6 =>
    if (decide (y6 < 0)) then
      some (d, 7)
    else
      (disk_change d).bind fun y9 =>
      if (!y9.2) then
        some (y9.1, 6)
      else
        (disk_at y9.1 name).bind fun y17 =>
        (disk_without y9.1 y17).bind fun y19 =>
        some (y19, 0)
def gm_disk_Delete : Gm := ⟨tys, [], [], []⟩
theorem disk_Delete_walk (d : Disk) (name : Str) (r : Disk × Int) (h : disk_Delete d name = some r) : PureP Try.prog 51 [.agg [.sl (List.map encFile d.Files), .v (.int .i64 d.Room), .v (.int .i64 d.Fuse), .v (.bool d.Off)], .v (.string (bs name))] (fun a => a = .tup [.agg [.sl (List.map encFile r.1.Files), .v (.int .i64 r.1.Room), .v (.int .i64 r.1.Fuse), .v (.bool r.1.Off)], .v (.int .i64 r.2)]) := by
  unfold disk_Delete at h
  refine pureW (G := gm_disk_Delete) tyOk Try.func51 rfl (by kernel_rfl) (by simp [Try.f51]) ?_
  refine Tri.seqK ?_
  refine Tri.run (G := gm_disk_Delete) tyOk mixed ?_
  conv => whnf
  refine Tri.seqK ?_
  refine Tri.block ?_
  refine Tri.seqK ?_
  refine Tri.run (G := gm_disk_Delete) tyOk mixed ?_
  conv => whnf
  refine Tri.cond rfl (fun c5 => ?_) (fun c5 => ?_)
  · replace h := if_t c5 h
    refine Tri.seqK ?_
    refine Tri.run (G := gm_disk_Delete) tyOk mixed ?_
    conv => whnf
    refine Tri.run (G := gm_disk_Delete) tyOk mixed ?_
    conv => whnf
    refine fin_here ?_
    conv => whnf
    obtain rfl := Option.some.inj h
    rfl
  · replace h := if_f c5 h
    refine Tri.seqK ?_
    refine Tri.run (G := gm_disk_Delete) tyOk mixed ?_
    conv => whnf
    replace h := bind_some h
    obtain ⟨y6, q7, h⟩ := h
    refine PureP.mono (disk_at_walk d name y6 q7) ?_
    rintro _ rfl
    conv => whnf
    refine Tri.cond rfl (fun c8 => ?_) (fun c8 => ?_)
    · replace h := if_t c8 h
      refine Tri.seqK ?_
      refine Tri.run (G := gm_disk_Delete) tyOk mixed ?_
      conv => whnf
      refine Tri.run (G := gm_disk_Delete) tyOk mixed ?_
      conv => whnf
      refine fin_here ?_
      conv => whnf
      obtain rfl := Option.some.inj h
      rfl
    · replace h := if_f c8 h
      refine Tri.run (G := gm_disk_Delete) tyOk mixed ?_
      conv => whnf
      refine Tri.seqK ?_
      refine Tri.run (G := gm_disk_Delete) tyOk mixed ?_
      conv => whnf
      replace h := bind_some h
      obtain ⟨y9, q10, h⟩ := h
      refine PureP.mono (disk_change_walk d y9 q10) ?_
      rintro _ rfl
      conv => whnf
      refine Tri.seqK ?_
      refine Tri.seqK ?_
      refine Tri.run (G := gm_disk_Delete) tyOk mixed ?_
      conv => whnf
      refine Tri.cond rfl (fun c12 => ?_) (fun c12 => ?_)
      · replace h := if_t c12 h
        refine Tri.seqK ?_
        refine Tri.run (G := gm_disk_Delete) tyOk mixed ?_
        conv => whnf
        refine Tri.run (G := gm_disk_Delete) tyOk mixed ?_
        conv => whnf
        refine fin_here ?_
        conv => whnf
        obtain rfl := Option.some.inj h
        rfl
      · replace h := if_f c12 h
        refine Tri.run (G := gm_disk_Delete) tyOk mixed ?_
        conv => whnf
        refine Tri.seqK ?_
        refine Tri.run (G := gm_disk_Delete) tyOk mixed ?_
        conv => whnf
        refine Draw.one 5 (.take 0 (.take 1 (.take 2 (.alt 3 (.alt 4 (.fin) (.nil)) (.nil))))) [] (by kernel_rfl) ?_
        conv => whnf
        refine ⟨?_, ?_⟩
        · conv => whnf
          replace h := bind_some h
          obtain ⟨y17, q18, h⟩ := h
          refine PureP.mono (disk_at_walk y9.1 name y17 q18) ?_
          rintro _ rfl
          conv => whnf
          refine ⟨?_, ?_⟩
          · conv => whnf
            replace h := bind_some h
            obtain ⟨y19, q20, h⟩ := h
            refine PureP.mono (disk_without_walk y9.1 y17 y19 q20) ?_
            rintro _ rfl
            conv => whnf
            refine Tri.run (G := gm_disk_Delete) tyOk mixed ?_
            conv => whnf
            refine fin_here ?_
            conv => whnf
            obtain rfl := Option.some.inj h
            rfl
          · conv => whnf
            trivial
        · conv => whnf
          trivial
noncomputable def disk_Rename (d : Disk) (from_ : Str) (to : Str) : Option (Disk × Int) :=
  if d.Off then
    some (d, 6)
  else
    (disk_named to).bind fun y10 =>
    if (!y10) then
      some (d, 1)
    else
      (disk_at d from_).bind fun y13 =>
      if (decide (y13 < 0)) then
        some (d, 7)
      else
        if (decide (from_ = to)) then
          some (d, 0)
        else
          (disk_change d).bind fun y17 =>
          if (!y17.2) then
            some (y17.1, 6)
          else
            (
              (disk_at y17.1 to).bind fun y33 =>
              if (decide (y33 ≥ 0)) then
                (disk_without y17.1 y33).bind fun y36 =>
                some (y36.Files, y36.Room, y36.Fuse, y36.Off)
              else
                some (y17.1.Files, y17.1.Room, y17.1.Fuse, y17.1.Off)).bind fun (y31 : (List File) × Int × Int × Bool) =>
            (disk_at ({ Files := y31.1, Room := y31.2.1, Fuse := y31.2.2.1, Off := y31.2.2.2 } : Disk) from_).bind fun y39 =>
            (ix y31.1 y39).bind fun x41 =>
            (disk_set_File y31.1 y39 ({ Name := to, Safe := x41.Safe, Wait := x41.Wait } : File)).bind fun y43 =>
            some (({ Files := y43, Room := y31.2.1, Fuse := y31.2.2.1, Off := y31.2.2.2 } : Disk), 0)
def gm_disk_Rename : Gm := ⟨tys, [], [], []⟩
theorem disk_Rename_walk (d : Disk) (from_ : Str) (to : Str) (r : Disk × Int) (h : disk_Rename d from_ to = some r) : PureP Try.prog 67 [.agg [.sl (List.map encFile d.Files), .v (.int .i64 d.Room), .v (.int .i64 d.Fuse), .v (.bool d.Off)], .v (.string (bs from_)), .v (.string (bs to))] (fun a => a = .tup [.agg [.sl (List.map encFile r.1.Files), .v (.int .i64 r.1.Room), .v (.int .i64 r.1.Fuse), .v (.bool r.1.Off)], .v (.int .i64 r.2)]) := by
  unfold disk_Rename at h
  refine pureW (G := gm_disk_Rename) tyOk Try.func67 rfl (by kernel_rfl) (by simp [Try.f67]) ?_
  refine Tri.seqK ?_
  refine Tri.run (G := gm_disk_Rename) tyOk mixed ?_
  conv => whnf
  refine Tri.seqK ?_
  refine Tri.block ?_
  refine Tri.seqK ?_
  refine Tri.run (G := gm_disk_Rename) tyOk mixed ?_
  conv => whnf
  refine Tri.cond rfl (fun c9 => ?_) (fun c9 => ?_)
  · replace h := if_t c9 h
    refine Tri.seqK ?_
    refine Tri.run (G := gm_disk_Rename) tyOk mixed ?_
    conv => whnf
    refine Tri.run (G := gm_disk_Rename) tyOk mixed ?_
    conv => whnf
    refine fin_here ?_
    conv => whnf
    obtain rfl := Option.some.inj h
    rfl
  · replace h := if_f c9 h
    refine Tri.seqK ?_
    refine Tri.run (G := gm_disk_Rename) tyOk mixed ?_
    conv => whnf
    replace h := bind_some h
    obtain ⟨y10, q11, h⟩ := h
    refine PureP.mono (disk_named_walk to y10 q11) ?_
    rintro _ rfl
    conv => whnf
    refine Tri.cond rfl (fun c12 => ?_) (fun c12 => ?_)
    · replace h := if_t c12 h
      refine Tri.seqK ?_
      refine Tri.run (G := gm_disk_Rename) tyOk mixed ?_
      conv => whnf
      refine Tri.run (G := gm_disk_Rename) tyOk mixed ?_
      conv => whnf
      refine fin_here ?_
      conv => whnf
      obtain rfl := Option.some.inj h
      rfl
    · replace h := if_f c12 h
      refine Tri.seqK ?_
      refine Tri.run (G := gm_disk_Rename) tyOk mixed ?_
      conv => whnf
      replace h := bind_some h
      obtain ⟨y13, q14, h⟩ := h
      refine PureP.mono (disk_at_walk d from_ y13 q14) ?_
      rintro _ rfl
      conv => whnf
      refine Tri.cond rfl (fun c15 => ?_) (fun c15 => ?_)
      · replace h := if_t c15 h
        refine Tri.seqK ?_
        refine Tri.run (G := gm_disk_Rename) tyOk mixed ?_
        conv => whnf
        refine Tri.run (G := gm_disk_Rename) tyOk mixed ?_
        conv => whnf
        refine fin_here ?_
        conv => whnf
        obtain rfl := Option.some.inj h
        rfl
      · replace h := if_f c15 h
        refine Tri.seqK ?_
        refine Tri.run (G := gm_disk_Rename) tyOk mixed ?_
        conv => whnf
        refine ⟨⟨(decide (from_ = to)), bs_eq _ _, ?_⟩⟩
        conv => whnf
        refine Tri.cond rfl (fun c16 => ?_) (fun c16 => ?_)
        · replace h := if_t c16 h
          refine Tri.seqK ?_
          refine Tri.run (G := gm_disk_Rename) tyOk mixed ?_
          conv => whnf
          refine Tri.run (G := gm_disk_Rename) tyOk mixed ?_
          conv => whnf
          refine fin_here ?_
          conv => whnf
          obtain rfl := Option.some.inj h
          rfl
        · replace h := if_f c16 h
          refine Tri.run (G := gm_disk_Rename) tyOk mixed ?_
          conv => whnf
          refine Tri.seqK ?_
          refine Tri.run (G := gm_disk_Rename) tyOk mixed ?_
          conv => whnf
          replace h := bind_some h
          obtain ⟨y17, q18, h⟩ := h
          refine PureP.mono (disk_change_walk d y17 q18) ?_
          rintro _ rfl
          conv => whnf
          refine Tri.seqK ?_
          refine Tri.seqK ?_
          refine Tri.run (G := gm_disk_Rename) tyOk mixed ?_
          conv => whnf
          refine Tri.cond rfl (fun c20 => ?_) (fun c20 => ?_)
          · replace h := if_t c20 h
            refine Tri.seqK ?_
            refine Tri.run (G := gm_disk_Rename) tyOk mixed ?_
            conv => whnf
            refine Tri.run (G := gm_disk_Rename) tyOk mixed ?_
            conv => whnf
            refine fin_here ?_
            conv => whnf
            obtain rfl := Option.some.inj h
            rfl
          · replace h := if_f c20 h
            refine Tri.run (G := gm_disk_Rename) tyOk mixed ?_
            conv => whnf
            refine Tri.seqK ?_
            replace h := bind_some h
            obtain ⟨y31, q32, h⟩ := h
            refine Tri.cut (fun ex S' => ex = .normal ∧ Weak S' ⟨65, 0, ofRegs [(1, .v (.string (bs from_))), (2, .v (.string (bs to))), (3, .ptr 0 0), (6, .ptr 1 0)], [.var 31 [.sl (List.map encFile y31.1), .v (.int .i64 y31.2.1), .v (.int .i64 y31.2.2.1), .v (.bool y31.2.2.2)], .var 31 [.v (.slice none 0 0), .v (.int .i64 0), .v (.int .i64 0), .v (.bool false)]]⟩) ?_ ?_
            · refine Tri.seqK ?_
              refine Tri.run (G := gm_disk_Rename) tyOk mixed ?_
              conv => whnf
              replace q32 := bind_some q32
              obtain ⟨y33, q34, q32⟩ := q32
              refine PureP.mono (disk_at_walk y17.1 to y33 q34) ?_
              rintro _ rfl
              conv => whnf
              refine Tri.seqK ?_
              refine Tri.run (G := gm_disk_Rename) tyOk mixed ?_
              conv => whnf
              refine Tri.cond rfl (fun c35 => ?_) (fun c35 => ?_)
              · replace q32 := if_t c35 q32
                refine Tri.run (G := gm_disk_Rename) tyOk mixed ?_
                conv => whnf
                replace q32 := bind_some q32
                obtain ⟨y36, q37, q32⟩ := q32
                refine PureP.mono (disk_without_walk y17.1 y33 y36 q37) ?_
                rintro _ rfl
                conv => whnf
                obtain rfl := Option.some.inj q32
                exact ⟨rfl, weak_fin _ rfl rfl rfl (.cons (.same rfl) (.cons (.same rfl) (LeH.rest))) (.cons (.one (.same rfl)) (.cons (.one (.same rfl)) (.cons (.one (.same rfl)) (.cons (.one (.same rfl)) (.nil))))) rfl rfl⟩
              · replace q32 := if_f c35 q32
                refine Tri.run (G := gm_disk_Rename) tyOk mixed ?_
                conv => whnf
                obtain rfl := Option.some.inj q32
                exact ⟨rfl, weak_fin _ rfl rfl rfl (.cons (.same rfl) (.cons (.same rfl) (LeH.rest))) (.cons (.one (.same rfl)) (.cons (.one (.same rfl)) (.cons (.one (.same rfl)) (.cons (.one (.same rfl)) (.nil))))) rfl rfl⟩
            · rintro ex S' ⟨rfl, w38⟩
              conv => whnf
              refine Tri.weak w38 ?_
              refine Tri.seqK ?_
              refine Tri.run (G := gm_disk_Rename) tyOk mixed ?_
              conv => whnf
              replace h := bind_some h
              obtain ⟨y39, q40, h⟩ := h
              refine PureP.mono (disk_at_walk ({ Files := y31.1, Room := y31.2.1, Fuse := y31.2.2.1, Off := y31.2.2.2 } : Disk) from_ y39 q40) ?_
              rintro _ rfl
              conv => whnf
              refine Tri.seqK ?_
              refine Tri.run (G := gm_disk_Rename) tyOk mixed ?_
              conv => whnf
              replace h := bind_some h
              obtain ⟨x41, q42, h⟩ := h
              refine ⟨(ix_some q42).1, ?_⟩
              conv => whnf
              refine ⟨⟨_, map_get encFile (ix_some q42).2, ?_⟩⟩
              conv => whnf
              refine ⟨rfl, ?_⟩
              conv => whnf
              refine Tri.seqK ?_
              refine Tri.run (G := gm_disk_Rename) tyOk mixed ?_
              conv => whnf
              refine Tri.seqK ?_
              refine Tri.run (G := gm_disk_Rename) tyOk mixed ?_
              conv => whnf
              replace h := bind_some h
              obtain ⟨y43, q44, h⟩ := h
              refine PureP.mono (disk_set_File_walk y31.1 y39 ({ Name := to, Safe := x41.Safe, Wait := x41.Wait } : File) y43 q44) ?_
              rintro _ rfl
              conv => whnf
              refine Tri.seqK ?_
              refine Tri.run (G := gm_disk_Rename) tyOk mixed ?_
              conv => whnf
              refine Tri.run (G := gm_disk_Rename) tyOk mixed ?_
              conv => whnf
              refine fin_here ?_
              conv => whnf
              obtain rfl := Option.some.inj h
              rfl
noncomputable def wal_cut_l2 (a757 : Int) (a758 : Int) (a759 : (List File)) (a760 : Int) (a761 : Int) (a762 : Bool) : Option ((Int × Int × (List File) × Int × Int × Bool) ⊕ (Int × (List File) × Int × Int × Bool)) :=
  (
    if (decide (a757 = 0)) then
      (wal_may a758).bind fun y790 =>
      some y790
    else
      some false).bind fun (y787 : Bool) =>
  if y787 then
    (wal_Name a758).bind fun y882 =>
    (disk_Find ({ Files := a759, Room := a760, Fuse := a761, Off := a762 } : Disk) y882).bind fun y884 =>
    if (!y884.2) then
      some (.inr (a757, a759, a760, a761, a762))
    else
      (disk_Delete ({ Files := a759, Room := a760, Fuse := a761, Off := a762 } : Disk) y882).bind fun y899 =>
      some (.inl (y899.2, (IntKind.i64.wrap (a758 + 1)), y899.1.Files, y899.1.Room, y899.1.Fuse, y899.1.Off))
  else
    some (.inr (a757, a759, a760, a761, a762))
noncomputable def wal_cut (d : Disk) (seg : Int) (s : Str) : Option (Disk × Int) :=
  (
    (disk_Find d [119, 46, 110, 101, 119]).bind fun y19 =>
    if y19.2 then
      (disk_Delete d [119, 46, 110, 101, 119]).bind fun y22 =>
      if (!(decide (y22.2 = 0))) then
        some (.inr (y22.2, y22.1.Files, y22.1.Room, y22.1.Fuse, y22.1.Off))
      else
        some (.inl (y22.1.Files, y22.1.Room, y22.1.Fuse, y22.1.Off))
    else
      some (.inl (d.Files, d.Room, d.Fuse, d.Off))).bind fun (y15 : ((List File) × Int × Int × Bool) ⊕ (Int × (List File) × Int × Int × Bool)) =>
  match y15 with
  | (.inl v17) =>
    (disk_Append ({ Files := v17.1, Room := v17.2.1, Fuse := v17.2.2.1, Off := v17.2.2.2 } : Disk) [119, 46, 110, 101, 119] s).bind fun y27 =>
    if (!(decide (y27.2 = 0))) then
      some (y27.1, y27.2)
    else
      (disk_Sync y27.1 [119, 46, 110, 101, 119]).bind fun y31 =>
      if (!(decide (y31.2 = 0))) then
        some (y31.1, y31.2)
      else
        (wal_Name seg).bind fun y43 =>
        (disk_Rename y31.1 [119, 46, 110, 101, 119] y43).bind fun y45 =>
        (loop (fun (s765 : Int × Int × (List File) × Int × Int × Bool) => wal_cut_l2 s765.1 s765.2.1 s765.2.2.1 s765.2.2.2.1 s765.2.2.2.2.1 s765.2.2.2.2.2) (y45.2, (IntKind.i64.wrap (seg + 1)), y45.1.Files, y45.1.Room, y45.1.Fuse, y45.1.Off)).bind fun (y763 : Int × (List File) × Int × Int × Bool) =>
        some (({ Files := y763.2.1, Room := y763.2.2.1, Fuse := y763.2.2.2.1, Off := y763.2.2.2.2 } : Disk), y763.1)
  | (.inr v18) =>
    some (({ Files := v18.2.1, Room := v18.2.2.1, Fuse := v18.2.2.2.1, Off := v18.2.2.2.2 } : Disk), v18.1)
def gm_wal_cut : Gm := ⟨tys, [], [], []⟩
theorem wal_cut_walk (d : Disk) (seg : Int) (s : Str) (r : Disk × Int) (h : wal_cut d seg s = some r) : PureP Try.prog 47 [.agg [.sl (List.map encFile d.Files), .v (.int .i64 d.Room), .v (.int .i64 d.Fuse), .v (.bool d.Off)], .v (.int .i64 seg), .v (.string (bs s))] (fun a => a = .tup [.agg [.sl (List.map encFile r.1.Files), .v (.int .i64 r.1.Room), .v (.int .i64 r.1.Fuse), .v (.bool r.1.Off)], .v (.int .i64 r.2)]) := by
  unfold wal_cut at h
  refine pureW (G := gm_wal_cut) tyOk Try.func47 rfl (by kernel_rfl) (by simp [Try.f47]) ?_
  refine Tri.seqK ?_
  refine Tri.run (G := gm_wal_cut) tyOk mixed ?_
  conv => whnf
  refine Tri.seqK ?_
  replace h := bind_some h
  obtain ⟨y15, q16, h⟩ := h
  refine Tri.cut (fun ex S' => (∃ v17 : (List File) × Int × Int × Bool, y15 = (.inl v17) ∧ ex = .normal ∧ Weak S' ⟨86, 0, ofRegs [(1, .v (.int .i64 seg)), (2, .v (.string (bs s))), (3, .ptr 0 0), (6, .ptr 1 0)], [.var 31 [.sl (List.map encFile v17.1), .v (.int .i64 v17.2.1), .v (.int .i64 v17.2.2.1), .v (.bool v17.2.2.2)], .var 31 [.v (.slice none 0 0), .v (.int .i64 0), .v (.int .i64 0), .v (.bool false)]]⟩) ∨ (∃ v18 : Int × (List File) × Int × Int × Bool, y15 = (.inr v18) ∧ ex = .ret ∧ Weak S' ⟨86, 0, ofRegs [(6, .ptr 1 0), (7, .v (.int .i64 v18.1))], [.gone, .var 31 [.sl (List.map encFile v18.2.1), .v (.int .i64 v18.2.2.1), .v (.int .i64 v18.2.2.2.1), .v (.bool v18.2.2.2.2)]]⟩)) ?_ ?_
  · refine Tri.seqK ?_
    refine Tri.run (G := gm_wal_cut) tyOk mixed ?_
    conv => whnf
    replace q16 := bind_some q16
    obtain ⟨y19, q20, q16⟩ := q16
    refine PureP.mono (disk_Find_walk d [119, 46, 110, 101, 119] y19 q20) ?_
    rintro _ rfl
    conv => whnf
    refine Tri.seqK ?_
    refine Tri.run (G := gm_wal_cut) tyOk mixed ?_
    conv => whnf
    refine Tri.cond rfl (fun c21 => ?_) (fun c21 => ?_)
    · replace q16 := if_t c21 q16
      refine Tri.seqK ?_
      refine Tri.run (G := gm_wal_cut) tyOk mixed ?_
      conv => whnf
      replace q16 := bind_some q16
      obtain ⟨y22, q23, q16⟩ := q16
      refine PureP.mono (disk_Delete_walk d [119, 46, 110, 101, 119] y22 q23) ?_
      rintro _ rfl
      conv => whnf
      refine Tri.seqK ?_
      refine Tri.seqK ?_
      refine Tri.run (G := gm_wal_cut) tyOk mixed ?_
      conv => whnf
      refine Tri.cond rfl (fun c25 => ?_) (fun c25 => ?_)
      · replace q16 := if_t c25 q16
        refine Tri.seqK ?_
        refine Tri.run (G := gm_wal_cut) tyOk mixed ?_
        conv => whnf
        refine Tri.run (G := gm_wal_cut) tyOk mixed ?_
        conv => whnf
        obtain rfl := Option.some.inj q16
        exact Or.inr (⟨_, rfl, rfl, weak_fin _ rfl rfl rfl (.cons (.gone) (.cons (.same rfl) (LeH.rest))) (.cons (.one (.same rfl)) (.cons (.one (.same rfl)) (.nil))) rfl rfl⟩)
      · replace q16 := if_f c25 q16
        refine Tri.run (G := gm_wal_cut) tyOk mixed ?_
        conv => whnf
        refine Tri.run (G := gm_wal_cut) tyOk mixed ?_
        conv => whnf
        obtain rfl := Option.some.inj q16
        exact Or.inl ⟨_, rfl, rfl, weak_fin _ rfl rfl rfl (.cons (.same rfl) (.cons (.same rfl) (LeH.rest))) (.cons (.one (.same rfl)) (.cons (.one (.same rfl)) (.cons (.one (.same rfl)) (.cons (.one (.same rfl)) (.nil))))) rfl rfl⟩
    · replace q16 := if_f c21 q16
      refine Tri.run (G := gm_wal_cut) tyOk mixed ?_
      conv => whnf
      obtain rfl := Option.some.inj q16
      exact Or.inl ⟨_, rfl, rfl, weak_fin _ rfl rfl rfl (.cons (.same rfl) (.cons (.same rfl) (LeH.rest))) (.cons (.one (.same rfl)) (.cons (.one (.same rfl)) (.cons (.one (.same rfl)) (.cons (.one (.same rfl)) (.nil))))) rfl rfl⟩
  · rintro ex S' (⟨v17, rfl, rfl, w26⟩ | ⟨v18, rfl, rfl, w26⟩)
    · dsimp only at h
      conv => whnf
      refine Tri.weak w26 ?_
      refine Tri.seqK ?_
      refine Tri.run (G := gm_wal_cut) tyOk mixed ?_
      conv => whnf
      replace h := bind_some h
      obtain ⟨y27, q28, h⟩ := h
      refine PureP.mono (disk_Append_walk ({ Files := v17.1, Room := v17.2.1, Fuse := v17.2.2.1, Off := v17.2.2.2 } : Disk) [119, 46, 110, 101, 119] s y27 q28) ?_
      rintro _ rfl
      conv => whnf
      refine Tri.seqK ?_
      refine Tri.seqK ?_
      refine Tri.run (G := gm_wal_cut) tyOk mixed ?_
      conv => whnf
      refine Tri.cond rfl (fun c30 => ?_) (fun c30 => ?_)
      · replace h := if_t c30 h
        refine Tri.seqK ?_
        refine Tri.run (G := gm_wal_cut) tyOk mixed ?_
        conv => whnf
        refine Tri.run (G := gm_wal_cut) tyOk mixed ?_
        conv => whnf
        refine fin_here ?_
        conv => whnf
        obtain rfl := Option.some.inj h
        rfl
      · replace h := if_f c30 h
        refine Tri.run (G := gm_wal_cut) tyOk mixed ?_
        conv => whnf
        refine Tri.seqK ?_
        refine Tri.run (G := gm_wal_cut) tyOk mixed ?_
        conv => whnf
        replace h := bind_some h
        obtain ⟨y31, q32, h⟩ := h
        refine PureP.mono (disk_Sync_walk y27.1 [119, 46, 110, 101, 119] y31 q32) ?_
        rintro _ rfl
        conv => whnf
        refine Tri.seqK ?_
        refine Tri.seqK ?_
        refine Tri.run (G := gm_wal_cut) tyOk mixed ?_
        conv => whnf
        refine Tri.cond rfl (fun c34 => ?_) (fun c34 => ?_)
        · replace h := if_t c34 h
          refine Tri.seqK ?_
          refine Tri.run (G := gm_wal_cut) tyOk mixed ?_
          conv => whnf
          refine Tri.run (G := gm_wal_cut) tyOk mixed ?_
          conv => whnf
          refine fin_here ?_
          conv => whnf
          obtain rfl := Option.some.inj h
          rfl
        · replace h := if_f c34 h
          refine Tri.run (G := gm_wal_cut) tyOk mixed ?_
          conv => whnf
          refine Tri.seqK ?_
          refine Tri.run (G := gm_wal_cut) tyOk mixed ?_
          conv => whnf
          replace h := bind_some h
          obtain ⟨y43, q51, h⟩ := h
          replace h := bind_some h
          obtain ⟨y45, q52, h⟩ := h
          refine Draw.many 8 (.take 1 (.alt 0 (.alt 2 (.alt 3 (.take 4 (.take 5 (.take 6 (.alt 7 (.fin) (.nil))))) (.nil)) (.nil)) (.alt 2 (.alt 0 (.alt 3 (.take 4 (.take 5 (.take 6 (.alt 7 (.fin) (.nil))))) (.nil)) (.nil)) (.nil)))) [0, 2, 3, 4, 5, 6, 7] (⟨86, 0, ofRegs [(1, .v (.int .i64 seg)), (3, .ptr 0 0), (6, .ptr 1 0), (57, .v (.int .i64 y45.2))], [.var 31 [.sl (List.map encFile y45.1.Files), .v (.int .i64 y45.1.Room), .v (.int .i64 y45.1.Fuse), .v (.bool y45.1.Off)], .var 31 [.v (.slice none 0 0), .v (.int .i64 0), .v (.int .i64 0), .v (.bool false)]]⟩) (by kernel_rfl) ?_ ?_
          · conv => whnf
            refine ⟨?_, ?_⟩
            · conv => whnf
              refine ⟨?_, ?_⟩
              · conv => whnf
                refine PureP.mono (wal_Name_walk seg y43 q51) ?_
                rintro _ rfl
                conv => whnf
                refine ⟨?_, ?_⟩
                · conv => whnf
                  refine PureP.mono (disk_Rename_walk y31.1 [119, 46, 110, 101, 119] y43 y45 q52) ?_
                  rintro _ rfl
                  conv => whnf
                  refine ⟨?_, ?_⟩
                  · conv => whnf
                    exact weak_fin _ rfl rfl rfl (.cons (.same rfl) (.cons (.same rfl) (LeH.rest))) (.cons (.one (.same rfl)) (.cons (.one (.same rfl)) (.cons (.one (.same rfl)) (.cons (.one (.same rfl)) (.nil))))) rfl rfl
                  · conv => whnf
                    trivial
                · conv => whnf
                  trivial
              · conv => whnf
                trivial
            · conv => whnf
              refine ⟨?_, ?_⟩
              · conv => whnf
                refine PureP.mono (wal_Name_walk seg y43 q51) ?_
                rintro _ rfl
                conv => whnf
                refine ⟨?_, ?_⟩
                · conv => whnf
                  refine ⟨?_, ?_⟩
                  · conv => whnf
                    refine PureP.mono (disk_Rename_walk y31.1 [119, 46, 110, 101, 119] y43 y45 q52) ?_
                    rintro _ rfl
                    conv => whnf
                    refine ⟨?_, ?_⟩
                    · conv => whnf
                      exact weak_fin _ rfl rfl rfl (.cons (.same rfl) (.cons (.same rfl) (LeH.rest))) (.cons (.one (.same rfl)) (.cons (.one (.same rfl)) (.cons (.one (.same rfl)) (.cons (.one (.same rfl)) (.nil))))) rfl rfl
                    · conv => whnf
                      trivial
                  · conv => whnf
                    trivial
                · conv => whnf
                  trivial
              · conv => whnf
                trivial
          · conv => whnf
            refine Tri.seqK ?_
            refine Tri.seqK ?_
            refine Tri.run (G := gm_wal_cut) tyOk mixed ?_
            conv => whnf
            refine Tri.block ?_
            replace h := bind_some h
            obtain ⟨y763, q764, h⟩ := h
            refine Tri.cut (fun ex S' => ex = (.exit 0) ∧ Weak S' ⟨86, 0, ofRegs [(3, .ptr 0 0), (6, .ptr 1 0), (12, .v (.int .i64 y763.1))], [.var 31 [.sl (List.map encFile y763.2.1), .v (.int .i64 y763.2.2.1), .v (.int .i64 y763.2.2.2.1), .v (.bool y763.2.2.2.2)], .var 31 [.v (.slice none 0 0), .v (.int .i64 0), .v (.int .i64 0), .v (.bool false)]]⟩) ?_ ?_
            · refine Tri.loopF (fun (s765 : Int × Int × (List File) × Int × Int × Bool) => (⟨86, 0, ofRegs [(3, .ptr 0 0), (6, .ptr 1 0), (12, .v (.int .i64 s765.1)), (13, .v (.int .i64 s765.2.1))], [.var 31 [.sl (List.map encFile s765.2.2.1), .v (.int .i64 s765.2.2.2.1), .v (.int .i64 s765.2.2.2.2.1), .v (.bool s765.2.2.2.2.2)], .var 31 [.v (.slice none 0 0), .v (.int .i64 0), .v (.int .i64 0), .v (.bool false)]]⟩ : St)) q764 (weak_fin _ rfl rfl rfl (.cons (.same rfl) (.cons (.same rfl) (LeH.rest))) (.cons (.one (.same rfl)) (.cons (.one (.same rfl)) (.cons (.one (.same rfl)) (.cons (.one (.same rfl)) (.nil))))) rfl rfl) ?_
              rintro ⟨a757, a758, a759, a760, a761, a762⟩ v766 hv r767
              have hv : wal_cut_l2 a757 a758 a759 a760 a761 a762 = some v766 := hv
              unfold wal_cut_l2 at hv
              dsimp only
              refine Tri.seqK ?_
              refine Tri.seqK ?_
              replace hv := bind_some hv
              obtain ⟨y787, q788, hv⟩ := hv
              refine Tri.cut (fun ex S' => ex = .normal ∧ Weak S' ⟨86, 0, ofRegs [(3, .ptr 0 0), (6, .ptr 1 0), (12, .v (.int .i64 a757)), (13, .v (.int .i64 a758)), (65, .v (.bool y787))], [.var 31 [.sl (List.map encFile a759), .v (.int .i64 a760), .v (.int .i64 a761), .v (.bool a762)], .var 31 [.v (.slice none 0 0), .v (.int .i64 0), .v (.int .i64 0), .v (.bool false)]]⟩) ?_ ?_
              · refine Tri.run (G := gm_wal_cut) tyOk mixed ?_
                conv => whnf
                refine cond_mk (fun c789 => ?_) (fun c789 => ?_)
                · replace q788 := if_t c789 q788
                  conv => whnf
                  replace q788 := bind_some q788
                  obtain ⟨y790, q791, q788⟩ := q788
                  refine PureP.mono (wal_may_walk a758 y790 q791) ?_
                  rintro _ rfl
                  conv => whnf
                  obtain rfl := Option.some.inj q788
                  exact ⟨rfl, weak_fin _ rfl rfl rfl (.cons (.same rfl) (.cons (.same rfl) (LeH.rest))) (.cons (.one (.same rfl)) (.cons (.one (.same rfl)) (.cons (.one (.same rfl)) (.cons (.one (.same rfl)) (.cons (.one (.same rfl)) (.nil)))))) rfl rfl⟩
                · replace q788 := if_f c789 q788
                  conv => whnf
                  obtain rfl := Option.some.inj q788
                  exact ⟨rfl, weak_fin _ rfl rfl rfl (.cons (.same rfl) (.cons (.same rfl) (LeH.rest))) (.cons (.one (.same rfl)) (.cons (.one (.same rfl)) (.cons (.one (.same rfl)) (.cons (.one (.same rfl)) (.cons (.one (.same rfl)) (.nil)))))) rfl rfl⟩
              · rintro ex S' ⟨rfl, w792⟩
                conv => whnf
                refine Tri.weak w792 ?_
                refine Tri.cond rfl (fun c793 => ?_) (fun c793 => ?_)
                · replace hv := if_t c793 hv
                  refine Tri.run (G := gm_wal_cut) tyOk mixed ?_
                  conv => whnf
                  refine Tri.seqK ?_
                  refine Tri.block ?_
                  refine Tri.seqK ?_
                  refine Tri.seqK ?_
                  refine Tri.run (G := gm_wal_cut) tyOk mixed ?_
                  conv => whnf
                  replace hv := bind_some hv
                  obtain ⟨y882, q892, hv⟩ := hv
                  replace hv := bind_some hv
                  obtain ⟨y884, q893, hv⟩ := hv
                  refine Draw.many 9 (.take 0 (.take 1 (.alt 2 (.alt 3 (.take 4 (.take 5 (.take 6 (.alt 7 (.alt 8 (.fin) (.nil)) (.nil))))) (.alt 7 (.alt 3 (.take 4 (.take 5 (.take 6 (.alt 8 (.fin) (.nil))))) (.nil)) (.nil))) (.alt 7 (.alt 2 (.alt 3 (.take 4 (.take 5 (.take 6 (.alt 8 (.fin) (.nil))))) (.nil)) (.nil)) (.nil))))) [2, 3, 4, 5, 6, 7] (⟨86, 0, ofRegs [(3, .ptr 0 0), (6, .ptr 1 0), (12, .v (.int .i64 a757)), (13, .v (.int .i64 a758)), (74, .v (.bool y884.2))], [.var 31 [.sl (List.map encFile a759), .v (.int .i64 a760), .v (.int .i64 a761), .v (.bool a762)], .var 31 [.v (.slice none 0 0), .v (.int .i64 0), .v (.int .i64 0), .v (.bool false)]]⟩) (by kernel_rfl) ?_ ?_
                  · conv => whnf
                    refine ⟨?_, ?_⟩
                    · conv => whnf
                      refine PureP.mono (wal_Name_walk a758 y882 q892) ?_
                      rintro _ rfl
                      conv => whnf
                      refine ⟨?_, ?_⟩
                      · conv => whnf
                        refine PureP.mono (disk_Find_walk ({ Files := a759, Room := a760, Fuse := a761, Off := a762 } : Disk) y882 y884 q893) ?_
                        rintro _ rfl
                        conv => whnf
                        refine ⟨?_, ?_⟩
                        · conv => whnf
                          refine ⟨?_, ?_⟩
                          · conv => whnf
                            exact weak_fin _ rfl rfl rfl (.cons (.same rfl) (.cons (.same rfl) (LeH.rest))) (.cons (.one (.same rfl)) (.cons (.one (.same rfl)) (.cons (.one (.same rfl)) (.cons (.one (.same rfl)) (.cons (.one (.same rfl)) (.nil)))))) rfl rfl
                          · conv => whnf
                            trivial
                        · conv => whnf
                          trivial
                      · conv => whnf
                        refine ⟨?_, ?_⟩
                        · conv => whnf
                          refine ⟨?_, ?_⟩
                          · conv => whnf
                            refine PureP.mono (disk_Find_walk ({ Files := a759, Room := a760, Fuse := a761, Off := a762 } : Disk) y882 y884 q893) ?_
                            rintro _ rfl
                            conv => whnf
                            refine ⟨?_, ?_⟩
                            · conv => whnf
                              exact weak_fin _ rfl rfl rfl (.cons (.same rfl) (.cons (.same rfl) (LeH.rest))) (.cons (.one (.same rfl)) (.cons (.one (.same rfl)) (.cons (.one (.same rfl)) (.cons (.one (.same rfl)) (.cons (.one (.same rfl)) (.nil)))))) rfl rfl
                            · conv => whnf
                              trivial
                          · conv => whnf
                            trivial
                        · conv => whnf
                          trivial
                    · conv => whnf
                      refine ⟨?_, ?_⟩
                      · conv => whnf
                        refine ⟨?_, ?_⟩
                        · conv => whnf
                          refine PureP.mono (wal_Name_walk a758 y882 q892) ?_
                          rintro _ rfl
                          conv => whnf
                          refine ⟨?_, ?_⟩
                          · conv => whnf
                            refine PureP.mono (disk_Find_walk ({ Files := a759, Room := a760, Fuse := a761, Off := a762 } : Disk) y882 y884 q893) ?_
                            rintro _ rfl
                            conv => whnf
                            refine ⟨?_, ?_⟩
                            · conv => whnf
                              exact weak_fin _ rfl rfl rfl (.cons (.same rfl) (.cons (.same rfl) (LeH.rest))) (.cons (.one (.same rfl)) (.cons (.one (.same rfl)) (.cons (.one (.same rfl)) (.cons (.one (.same rfl)) (.cons (.one (.same rfl)) (.nil)))))) rfl rfl
                            · conv => whnf
                              trivial
                          · conv => whnf
                            trivial
                        · conv => whnf
                          trivial
                      · conv => whnf
                        trivial
                  · conv => whnf
                    refine Tri.seqK ?_
                    refine Tri.run (G := gm_wal_cut) tyOk mixed ?_
                    conv => whnf
                    refine Tri.cond rfl (fun c894 => ?_) (fun c894 => ?_)
                    · replace hv := if_t c894 hv
                      refine Tri.run (G := gm_wal_cut) tyOk mixed ?_
                      conv => whnf
                      obtain rfl := Option.some.inj hv
                      obtain rfl := r767 _ rfl
                      exact ⟨rfl, weak_fin _ rfl rfl rfl (.cons (.same rfl) (.cons (.same rfl) (LeH.rest))) (.cons (.one (.same rfl)) (.cons (.one (.same rfl)) (.cons (.one (.same rfl)) (.nil)))) rfl rfl⟩
                    · replace hv := if_f c894 hv
                      refine Tri.run (G := gm_wal_cut) tyOk mixed ?_
                      conv => whnf
                      refine Tri.run (G := gm_wal_cut) tyOk mixed ?_
                      conv => whnf
                      replace hv := bind_some hv
                      obtain ⟨y899, q903, hv⟩ := hv
                      refine Draw.many 8 (.take 1 (.alt 0 (.alt 2 (.alt 3 (.take 4 (.take 5 (.take 6 (.alt 7 (.fin) (.nil))))) (.nil)) (.nil)) (.alt 2 (.alt 0 (.alt 3 (.take 4 (.take 5 (.take 6 (.alt 7 (.fin) (.nil))))) (.nil)) (.nil)) (.nil)))) [0, 2, 3, 4, 5, 6, 7] (⟨86, 0, ofRegs [(3, .ptr 0 0), (6, .ptr 1 0), (13, .v (.int .i64 a758)), (83, .v (.int .i64 y899.2))], [.var 31 [.sl (List.map encFile y899.1.Files), .v (.int .i64 y899.1.Room), .v (.int .i64 y899.1.Fuse), .v (.bool y899.1.Off)], .var 31 [.v (.slice none 0 0), .v (.int .i64 0), .v (.int .i64 0), .v (.bool false)]]⟩) (by kernel_rfl) ?_ ?_
                      · conv => whnf
                        refine ⟨?_, ?_⟩
                        · conv => whnf
                          refine ⟨?_, ?_⟩
                          · conv => whnf
                            refine PureP.mono (wal_Name_walk a758 y882 q892) ?_
                            rintro _ rfl
                            conv => whnf
                            refine ⟨?_, ?_⟩
                            · conv => whnf
                              refine PureP.mono (disk_Delete_walk ({ Files := a759, Room := a760, Fuse := a761, Off := a762 } : Disk) y882 y899 q903) ?_
                              rintro _ rfl
                              conv => whnf
                              refine ⟨?_, ?_⟩
                              · conv => whnf
                                exact weak_fin _ rfl rfl rfl (.cons (.same rfl) (.cons (.same rfl) (LeH.rest))) (.cons (.one (.same rfl)) (.cons (.one (.same rfl)) (.cons (.one (.same rfl)) (.cons (.one (.same rfl)) (.nil))))) rfl rfl
                              · conv => whnf
                                trivial
                            · conv => whnf
                              trivial
                          · conv => whnf
                            trivial
                        · conv => whnf
                          refine ⟨?_, ?_⟩
                          · conv => whnf
                            refine PureP.mono (wal_Name_walk a758 y882 q892) ?_
                            rintro _ rfl
                            conv => whnf
                            refine ⟨?_, ?_⟩
                            · conv => whnf
                              refine ⟨?_, ?_⟩
                              · conv => whnf
                                refine PureP.mono (disk_Delete_walk ({ Files := a759, Room := a760, Fuse := a761, Off := a762 } : Disk) y882 y899 q903) ?_
                                rintro _ rfl
                                conv => whnf
                                refine ⟨?_, ?_⟩
                                · conv => whnf
                                  exact weak_fin _ rfl rfl rfl (.cons (.same rfl) (.cons (.same rfl) (LeH.rest))) (.cons (.one (.same rfl)) (.cons (.one (.same rfl)) (.cons (.one (.same rfl)) (.cons (.one (.same rfl)) (.nil))))) rfl rfl
                                · conv => whnf
                                  trivial
                              · conv => whnf
                                trivial
                            · conv => whnf
                              trivial
                          · conv => whnf
                            trivial
                      · conv => whnf
                        refine Tri.run (G := gm_wal_cut) tyOk mixed ?_
                        conv => whnf
                        obtain rfl := Option.some.inj hv
                        exact ⟨_, rfl, weak_fin _ rfl rfl rfl (.cons (.same rfl) (.cons (.same rfl) (LeH.rest))) (.cons (.one (.same rfl)) (.cons (.one (.same rfl)) (.cons (.one (.same rfl)) (.cons (.one (.same rfl)) (.nil))))) rfl rfl⟩
                · replace hv := if_f c793 hv
                  refine Tri.run (G := gm_wal_cut) tyOk mixed ?_
                  conv => whnf
                  obtain rfl := Option.some.inj hv
                  obtain rfl := r767 _ rfl
                  exact ⟨rfl, weak_fin _ rfl rfl rfl (.cons (.same rfl) (.cons (.same rfl) (LeH.rest))) (.cons (.one (.same rfl)) (.cons (.one (.same rfl)) (.cons (.one (.same rfl)) (.nil)))) rfl rfl⟩
            · rintro ex S' ⟨rfl, w904⟩
              conv => whnf
              refine Tri.weak w904 ?_
              refine Tri.seqK ?_
              refine Tri.run (G := gm_wal_cut) tyOk mixed ?_
              conv => whnf
              refine Tri.run (G := gm_wal_cut) tyOk mixed ?_
              conv => whnf
              refine fin_here ?_
              conv => whnf
              obtain rfl := Option.some.inj h
              rfl
    · dsimp only at h
      conv => whnf
      refine fin_pre w26 ?_
      conv => whnf
      obtain rfl := Option.some.inj h
      rfl
noncomputable def wal_Recover_l2 (d : Disk) (a586 : Int) (a587 : Int) (a588 : (List Str)) : Option ((Int × Int × (List Str)) ⊕ ((Int × (List File) × Int × Int × Bool × (List Str)) ⊕ (Int × (List File) × Int × Int × Bool))) :=
  (wal_may a587).bind fun y599 =>
  if y599 then
    (wal_Name a587).bind fun y634 =>
    (disk_Read d y634).bind fun y636 =>
    if (!(decide (y636.2 = 0))) then
      some (.inr (.inl (a586, d.Files, d.Room, d.Fuse, d.Off, a588)))
    else
      (wal_Scan y636.1).bind fun y640 =>
      need ((a588.length + y640.1.length) * 16 ≤ 140737488355328) <|
      if (decide (y640.2 < (y636.1.length : Int))) then
        need (0 ≤ (0 : Int) ∧ 0 ≤ y640.2 ∧ y640.2 ≤ (y636.1.length : Int)) <|
        (wal_cut d a587 (cut y636.1 0 y640.2)).bind fun y650 =>
        if (!(decide (y650.2 = 0))) then
          some (.inr (.inr (y650.2, y650.1.Files, y650.1.Room, y650.1.Fuse, y650.1.Off)))
        else
          some (.inr (.inl (a587, y650.1.Files, y650.1.Room, y650.1.Fuse, y650.1.Off, (a588 ++ y640.1))))
      else
        some (.inl (a587, (IntKind.i64.wrap (a587 + 1)), (a588 ++ y640.1)))
  else
    some (.inr (.inl (a586, d.Files, d.Room, d.Fuse, d.Off, a588)))
noncomputable def wal_Recover (d : Disk) (from_ : Int) : Option (Disk × (List Str) × Int × Int) :=
  (wal_may from_).bind fun y4 =>
  if (!y4) then
    some (d, [], from_, 1)
  else
    (loop (fun (s593 : Int × Int × (List Str)) => wal_Recover_l2 d s593.1 s593.2.1 s593.2.2) (from_, from_, ([] : (List Str)))).bind fun (y589 : (Int × (List File) × Int × Int × Bool × (List Str)) ⊕ (Int × (List File) × Int × Int × Bool)) =>
    match y589 with
    | (.inl v591) =>
      some (({ Files := v591.2.1, Room := v591.2.2.1, Fuse := v591.2.2.2.1, Off := v591.2.2.2.2.1 } : Disk), v591.2.2.2.2.2, v591.1, 0)
    | (.inr v592) =>
      some (({ Files := v592.2.1, Room := v592.2.2.1, Fuse := v592.2.2.2.1, Off := v592.2.2.2.2 } : Disk), [], from_, v592.1)
def gm_wal_Recover : Gm := ⟨tys, [], [], []⟩
theorem wal_Recover_walk (d : Disk) (from_ : Int) (r : Disk × (List Str) × Int × Int) (h : wal_Recover d from_ = some r) : PureP Try.prog 24 [.agg [.sl (List.map encFile d.Files), .v (.int .i64 d.Room), .v (.int .i64 d.Fuse), .v (.bool d.Off)], .v (.int .i64 from_)] (fun a => a = .tup [.agg [.sl (List.map encFile r.1.Files), .v (.int .i64 r.1.Room), .v (.int .i64 r.1.Fuse), .v (.bool r.1.Off)], .sl (List.map encS r.2.1), .v (.int .i64 r.2.2.1), .v (.int .i64 r.2.2.2)]) := by
  unfold wal_Recover at h
  refine pureW (G := gm_wal_Recover) tyOk Try.func24 rfl (by kernel_rfl) (by simp [Try.f24]) ?_
  refine Tri.seqK ?_
  refine Tri.run (G := gm_wal_Recover) tyOk mixed ?_
  conv => whnf
  refine Tri.scope ?_
  refine Tri.seqK ?_
  refine Tri.seqK ?_
  refine Tri.run (G := gm_wal_Recover) tyOk mixed ?_
  conv => whnf
  replace h := bind_some h
  obtain ⟨y4, q5, h⟩ := h
  refine PureP.mono (wal_may_walk from_ y4 q5) ?_
  rintro _ rfl
  conv => whnf
  refine Tri.cond rfl (fun c6 => ?_) (fun c6 => ?_)
  · replace h := if_t c6 h
    refine Tri.seqK ?_
    refine Tri.run (G := gm_wal_Recover) tyOk mixed ?_
    conv => whnf
    refine Tri.run (G := gm_wal_Recover) tyOk mixed ?_
    conv => whnf
    refine fin_here ?_
    conv => whnf
    obtain rfl := Option.some.inj h
    rfl
  · replace h := if_f c6 h
    refine Tri.run (G := gm_wal_Recover) tyOk mixed ?_
    conv => whnf
    refine Tri.seqK ?_
    refine Tri.run (G := gm_wal_Recover) tyOk mixed ?_
    conv => whnf
    refine Tri.seqK ?_
    refine Tri.run (G := gm_wal_Recover) tyOk mixed ?_
    conv => whnf
    refine Tri.seqK ?_
    refine Tri.run (G := gm_wal_Recover) tyOk mixed ?_
    conv => whnf
    refine Tri.seqK ?_
    refine Tri.seqK ?_
    refine Tri.run (G := gm_wal_Recover) tyOk mixed ?_
    conv => whnf
    refine Tri.block ?_
    replace h := bind_some h
    obtain ⟨y589, q590, h⟩ := h
    refine Tri.cut (fun ex S' => (∃ v591 : Int × (List File) × Int × Int × Bool × (List Str), y589 = (.inl v591) ∧ ex = (.exit 0) ∧ Weak S' ⟨68, 0, ofRegs [(2, .ptr 0 0), (4, .ptr 1 0), (8, .row 2 ((List.map encS v591.2.2.2.2.2).length)), (9, .v (.int .i64 v591.1))], [.var 31 [.sl (List.map encFile v591.2.1), .v (.int .i64 v591.2.2.1), .v (.int .i64 v591.2.2.2.1), .v (.bool v591.2.2.2.2.1)], .var 31 [.v (.slice none 0 0), .v (.int .i64 0), .v (.int .i64 0), .v (.bool false)], .row 9 1 (List.map encS v591.2.2.2.2.2)]⟩) ∨ (∃ v592 : Int × (List File) × Int × Int × Bool, y589 = (.inr v592) ∧ ex = .ret ∧ Weak S' ⟨68, 0, ofRegs [(4, .ptr 1 0), (5, .v (.slice none 0 0)), (6, .v (.int .i64 from_)), (7, .v (.int .i64 v592.1))], [.gone, .var 31 [.sl (List.map encFile v592.2.1), .v (.int .i64 v592.2.2.1), .v (.int .i64 v592.2.2.2.1), .v (.bool v592.2.2.2.2)]]⟩)) ?_ ?_
    · refine Tri.loopF (fun (s593 : Int × Int × (List Str)) => (⟨68, 0, ofRegs [(1, .v (.int .i64 from_)), (2, .ptr 0 0), (4, .ptr 1 0), (8, .row 2 ((List.map encS s593.2.2).length)), (9, .v (.int .i64 s593.1)), (10, .v (.int .i64 s593.2.1))], [.var 31 [.sl (List.map encFile d.Files), .v (.int .i64 d.Room), .v (.int .i64 d.Fuse), .v (.bool d.Off)], .var 31 [.v (.slice none 0 0), .v (.int .i64 0), .v (.int .i64 0), .v (.bool false)], .row 9 1 (List.map encS s593.2.2)]⟩ : St)) q590 (Weak.trans (weak_nil 8 9 1 rfl) (weak_fin _ rfl rfl rfl (.cons (.same rfl) (.cons (.same rfl) (.cons (.same rfl) (LeH.rest)))) (.cons (.one (.same rfl)) (.cons (.one (.same rfl)) (.cons (.one (.same rfl)) (.cons (.one (.same (show (.row 2 0 : AV) = (.row 2 ((List.map encS []).length) : AV) from congrArg (AV.row 2) (by simp)))) (.cons (.one (.same rfl)) (.cons (.one (.same rfl)) (.nil))))))) rfl rfl)) ?_
      rintro ⟨a586, a587, a588⟩ v594 hv r595
      have hv : wal_Recover_l2 d a586 a587 a588 = some v594 := hv
      unfold wal_Recover_l2 at hv
      dsimp only
      refine Tri.seqK ?_
      refine Tri.seqK ?_
      refine Tri.run (G := gm_wal_Recover) tyOk mixed ?_
      conv => whnf
      replace hv := bind_some hv
      obtain ⟨y599, q600, hv⟩ := hv
      refine PureP.mono (wal_may_walk a587 y599 q600) ?_
      rintro _ rfl
      conv => whnf
      refine Tri.cond rfl (fun c601 => ?_) (fun c601 => ?_)
      · replace hv := if_t c601 hv
        refine Tri.run (G := gm_wal_Recover) tyOk mixed ?_
        conv => whnf
        refine Tri.seqK ?_
        refine Tri.block ?_
        refine Tri.seqK ?_
        refine Tri.run (G := gm_wal_Recover) tyOk mixed ?_
        conv => whnf
        refine Draw.one 9 (.take 0 (.take 1 (.alt 2 (.alt 3 (.take 4 (.take 5 (.take 6 (.take 7 (.take 8 (.fin)))))) (.nil)) (.nil)))) [] (by kernel_rfl) ?_
        conv => whnf
        refine ⟨?_, ?_⟩
        · conv => whnf
          replace hv := bind_some hv
          obtain ⟨y634, q635, hv⟩ := hv
          refine PureP.mono (wal_Name_walk a587 y634 q635) ?_
          rintro _ rfl
          conv => whnf
          refine ⟨?_, ?_⟩
          · conv => whnf
            replace hv := bind_some hv
            obtain ⟨y636, q637, hv⟩ := hv
            refine PureP.mono (disk_Read_walk d y634 y636 q637) ?_
            rintro _ rfl
            conv => whnf
            refine Tri.seqK ?_
            refine Tri.seqK ?_
            refine Tri.run (G := gm_wal_Recover) tyOk mixed ?_
            conv => whnf
            refine Tri.cond rfl (fun c639 => ?_) (fun c639 => ?_)
            · replace hv := if_t c639 hv
              refine Tri.run (G := gm_wal_Recover) tyOk mixed ?_
              conv => whnf
              obtain rfl := Option.some.inj hv
              obtain rfl := r595 _ rfl
              exact Or.inl ⟨_, rfl, rfl, weak_fin _ rfl rfl rfl (.cons (.same rfl) (.cons (.same rfl) (.cons (.same rfl) (LeH.rest)))) (.cons (.one (.same rfl)) (.cons (.one (.same rfl)) (.cons (.one (.same rfl)) (.cons (.one (.same rfl)) (.nil))))) rfl rfl⟩
            · replace hv := if_f c639 hv
              refine Tri.run (G := gm_wal_Recover) tyOk mixed ?_
              conv => whnf
              refine Tri.seqK ?_
              refine Tri.run (G := gm_wal_Recover) tyOk mixed ?_
              conv => whnf
              replace hv := bind_some hv
              obtain ⟨y640, q641, hv⟩ := hv
              refine PureP.mono (wal_Scan_walk y636.1 y640 q641) ?_
              rintro _ rfl
              conv => whnf
              refine Tri.seqK ?_
              refine Tri.run (G := gm_wal_Recover) tyOk mixed ?_
              conv => whnf
              refine ⟨rfl, ?_⟩
              conv => whnf
              refine ⟨map_len (f := encS) (n := 1) (fun _ => rfl) _, ?_⟩
              conv => whnf
              replace hv := need_some hv
              obtain ⟨p642, hv⟩ := hv
              refine ⟨by simp only [List.length_map]; exact p642, ?_⟩
              conv => whnf
              refine ⟨⟨List.map encS (a588 ++ y640.1), map_app encS _ _ rfl rfl, ?_⟩⟩
              conv => whnf
              refine Tri.seqK ?_
              refine Tri.run (G := gm_wal_Recover) tyOk mixed ?_
              conv => whnf
              refine ⟨⟨(y636.1.length : Int), rfl, ?_⟩⟩
              conv => whnf
              refine Tri.cond rfl (fun c643 => ?_) (fun c643 => ?_)
              · replace hv := if_t c643 hv
                refine Tri.seqK ?_
                refine Tri.run (G := gm_wal_Recover) tyOk mixed ?_
                conv => whnf
                replace hv := need_some hv
                obtain ⟨p654, hv⟩ := hv
                replace hv := bind_some hv
                obtain ⟨y650, q655, hv⟩ := hv
                refine Draw.many 11 (.take 0 (.take 1 (.take 2 (.take 3 (.take 4 (.alt 5 (.take 6 (.take 7 (.take 8 (.alt 9 (.alt 10 (.fin) (.nil)) (.nil))))) (.alt 9 (.alt 5 (.take 6 (.take 7 (.take 8 (.alt 10 (.fin) (.nil))))) (.nil)) (.nil)))))))) [3, 4, 5, 6, 7, 8] (⟨68, 0, ofRegs [(1, .v (.int .i64 from_)), (2, .ptr 0 0), (4, .ptr 1 0), (8, .row 2 ((List.map encS (a588 ++ y640.1)).length)), (9, .v (.int .i64 a587)), (15, .ptr 3 0), (58, .v (.int .i64 y650.2))], [.var 31 [.sl (List.map encFile d.Files), .v (.int .i64 d.Room), .v (.int .i64 d.Fuse), .v (.bool d.Off)], .var 31 [.v (.slice none 0 0), .v (.int .i64 0), .v (.int .i64 0), .v (.bool false)], .row 9 1 (List.map encS (a588 ++ y640.1)), .var 31 [.sl (List.map encFile y650.1.Files), .v (.int .i64 y650.1.Room), .v (.int .i64 y650.1.Fuse), .v (.bool y650.1.Off)]]⟩) (by kernel_rfl) ?_ ?_
                · conv => whnf
                  refine ⟨p654, ?_⟩
                  conv => whnf
                  refine ⟨⟨bs (cut y636.1 0 y640.2), bs_cut _ _ _, ?_⟩⟩
                  conv => whnf
                  refine ⟨?_, ?_⟩
                  · conv => whnf
                    refine PureP.mono (wal_cut_walk d a587 (cut y636.1 0 y640.2) y650 q655) ?_
                    rintro _ rfl
                    conv => whnf
                    refine ⟨?_, ?_⟩
                    · conv => whnf
                      refine ⟨?_, ?_⟩
                      · conv => whnf
                        exact weak_fin _ rfl rfl rfl (.cons (.same rfl) (.cons (.same rfl) (.cons (.same rfl) (.cons (.same rfl) (LeH.rest))))) (.cons (.one (.same rfl)) (.cons (.one (.same rfl)) (.cons (.one (.same rfl)) (.cons (.one (.same rfl)) (.cons (.one (.same rfl)) (.cons (.one (.same rfl)) (.cons (.one (.same rfl)) (.nil)))))))) rfl rfl
                      · conv => whnf
                        trivial
                    · conv => whnf
                      trivial
                  · conv => whnf
                    refine ⟨?_, ?_⟩
                    · conv => whnf
                      refine ⟨?_, ?_⟩
                      · conv => whnf
                        refine PureP.mono (wal_cut_walk d a587 (cut y636.1 0 y640.2) y650 q655) ?_
                        rintro _ rfl
                        conv => whnf
                        refine ⟨?_, ?_⟩
                        · conv => whnf
                          exact weak_fin _ rfl rfl rfl (.cons (.same rfl) (.cons (.same rfl) (.cons (.same rfl) (.cons (.same rfl) (LeH.rest))))) (.cons (.one (.same rfl)) (.cons (.one (.same rfl)) (.cons (.one (.same rfl)) (.cons (.one (.same rfl)) (.cons (.one (.same rfl)) (.cons (.one (.same rfl)) (.cons (.one (.same rfl)) (.nil)))))))) rfl rfl
                        · conv => whnf
                          trivial
                      · conv => whnf
                        trivial
                    · conv => whnf
                      trivial
                · conv => whnf
                  refine Tri.seqK ?_
                  refine Tri.seqK ?_
                  refine Tri.run (G := gm_wal_Recover) tyOk mixed ?_
                  conv => whnf
                  refine Tri.cond rfl (fun c657 => ?_) (fun c657 => ?_)
                  · replace hv := if_t c657 hv
                    refine Tri.seqK ?_
                    refine Tri.run (G := gm_wal_Recover) tyOk mixed ?_
                    conv => whnf
                    refine Tri.run (G := gm_wal_Recover) tyOk mixed ?_
                    conv => whnf
                    obtain rfl := Option.some.inj hv
                    obtain rfl := r595 _ rfl
                    exact Or.inr (⟨_, rfl, rfl, weak_fin _ rfl rfl rfl (.cons (.gone) (.cons (.same rfl) (LeH.rest))) (.cons (.one (.same rfl)) (.cons (.one (.same rfl)) (.cons (.one (.same rfl)) (.cons (.one (.same rfl)) (.nil))))) rfl rfl⟩)
                  · replace hv := if_f c657 hv
                    refine Tri.run (G := gm_wal_Recover) tyOk mixed ?_
                    conv => whnf
                    refine Tri.seqK ?_
                    refine Tri.run (G := gm_wal_Recover) tyOk mixed ?_
                    conv => whnf
                    refine Tri.run (G := gm_wal_Recover) tyOk mixed ?_
                    conv => whnf
                    obtain rfl := Option.some.inj hv
                    obtain rfl := r595 _ rfl
                    exact Or.inl ⟨_, rfl, rfl, weak_fin _ rfl rfl rfl (.cons (.same rfl) (.cons (.same rfl) (.cons (.same rfl) (LeH.rest)))) (.cons (.one (.same rfl)) (.cons (.one (.same rfl)) (.cons (.one (.same rfl)) (.cons (.one (.same rfl)) (.nil))))) rfl rfl⟩
              · replace hv := if_f c643 hv
                refine Tri.run (G := gm_wal_Recover) tyOk mixed ?_
                conv => whnf
                refine Tri.run (G := gm_wal_Recover) tyOk mixed ?_
                conv => whnf
                obtain rfl := Option.some.inj hv
                exact ⟨_, rfl, weak_fin _ rfl rfl rfl (.cons (.same rfl) (.cons (.same rfl) (.cons (.same rfl) (LeH.rest)))) (.cons (.one (.same rfl)) (.cons (.one (.same rfl)) (.cons (.one (.same rfl)) (.cons (.one (.same rfl)) (.cons (.one (.same rfl)) (.cons (.one (.same rfl)) (.nil))))))) rfl rfl⟩
          · conv => whnf
            trivial
        · conv => whnf
          trivial
      · replace hv := if_f c601 hv
        refine Tri.run (G := gm_wal_Recover) tyOk mixed ?_
        conv => whnf
        obtain rfl := Option.some.inj hv
        obtain rfl := r595 _ rfl
        exact Or.inl ⟨_, rfl, rfl, weak_fin _ rfl rfl rfl (.cons (.same rfl) (.cons (.same rfl) (.cons (.same rfl) (LeH.rest)))) (.cons (.one (.same rfl)) (.cons (.one (.same rfl)) (.cons (.one (.same rfl)) (.cons (.one (.same rfl)) (.nil))))) rfl rfl⟩
    · rintro ex S' (⟨v591, rfl, rfl, w658⟩ | ⟨v592, rfl, rfl, w658⟩)
      · dsimp only at h
        conv => whnf
        refine Tri.weak w658 ?_
        refine Tri.seqK ?_
        refine Tri.run (G := gm_wal_Recover) tyOk mixed ?_
        conv => whnf
        refine Tri.run (G := gm_wal_Recover) tyOk mixed ?_
        conv => whnf
        refine fin_here ?_
        conv => whnf
        refine ⟨rfl, ?_⟩
        conv => whnf
        obtain rfl := Option.some.inj h
        rfl
      · dsimp only at h
        conv => whnf
        refine fin_pre w658 ?_
        conv => whnf
        obtain rfl := Option.some.inj h
        rfl
noncomputable def law04_shown  : Option (Bool) :=
  (ref03_New 100).bind fun y1 =>
  (wal_Put y1.1 1 [97]).bind fun y3 =>
  (wal_Sync y3.1 y3.2.1).bind fun y5 =>
  (wal_Put y5.1 y3.2.1 [98]).bind fun y7 =>
  (ref03_Crash y7.1 [3]).bind fun y9 =>
  (wal_Recover y9 1).bind fun y11 =>
  if (decide (y7.2.1 = 1)) then
    if (decide (y3.2.2 = 0)) then
      if (decide (y5.2 = 0)) then
        if (decide (y7.2.2 = 0)) then
          if (decide (y11.2.2.2 = 0)) then
            if (decide (y11.2.2.1 = 1)) then
              if (decide ((y11.2.1.length : Int) = 1)) then
                (ix y11.2.1 0).bind fun x20 =>
                some (decide (x20 = [97]))
              else
                some false
            else
              some false
          else
            some false
        else
          some false
      else
        some false
    else
      some false
  else
    some false
def gm_law04_shown : Gm := ⟨tys, [], [], []⟩
theorem law04_shown_walk  (r : Bool) (h : law04_shown = some r) : PureP Try.prog 11 [] (fun a => a = .v (.bool r)) := by
  unfold law04_shown at h
  refine pureW (G := gm_law04_shown) tyOk Try.func11 rfl (by kernel_rfl) (by simp [Try.f11]) ?_
  refine Tri.seqK ?_
  refine Tri.run (G := gm_law04_shown) tyOk mixed ?_
  conv => whnf
  refine Tri.seqK ?_
  refine Tri.run (G := gm_law04_shown) tyOk mixed ?_
  conv => whnf
  replace h := bind_some h
  obtain ⟨y1, q2, h⟩ := h
  refine PureP.mono (ref03_New_walk 100 y1 q2) ?_
  rintro _ rfl
  conv => whnf
  refine Tri.seqK ?_
  refine Tri.run (G := gm_law04_shown) tyOk mixed ?_
  conv => whnf
  replace h := bind_some h
  obtain ⟨y3, q4, h⟩ := h
  refine PureP.mono (wal_Put_walk y1.1 1 [97] y3 q4) ?_
  rintro _ rfl
  conv => whnf
  refine Tri.seqK ?_
  refine Tri.run (G := gm_law04_shown) tyOk mixed ?_
  conv => whnf
  replace h := bind_some h
  obtain ⟨y5, q6, h⟩ := h
  refine PureP.mono (wal_Sync_walk y3.1 y3.2.1 y5 q6) ?_
  rintro _ rfl
  conv => whnf
  refine Tri.seqK ?_
  refine Tri.run (G := gm_law04_shown) tyOk mixed ?_
  conv => whnf
  replace h := bind_some h
  obtain ⟨y7, q8, h⟩ := h
  refine PureP.mono (wal_Put_walk y5.1 y3.2.1 [98] y7 q8) ?_
  rintro _ rfl
  conv => whnf
  refine Tri.seqK ?_
  refine Tri.run (G := gm_law04_shown) tyOk mixed ?_
  conv => whnf
  refine ⟨⟨List.map (encI .i64) [3], rfl, ?_⟩⟩
  conv => whnf
  refine ⟨rfl, ?_⟩
  conv => whnf
  replace h := bind_some h
  obtain ⟨y9, q10, h⟩ := h
  refine PureP.mono (ref03_Crash_walk y7.1 [3] y9 q10) ?_
  rintro _ rfl
  conv => whnf
  replace h := bind_some h
  obtain ⟨y11, q12, h⟩ := h
  refine PureP.mono (wal_Recover_walk y9 1 y11 q12) ?_
  rintro _ rfl
  conv => whnf
  refine Tri.seqK ?_
  refine Tri.run (G := gm_law04_shown) tyOk mixed ?_
  conv => whnf
  refine cond_mk (fun c13 => ?_) (fun c13 => ?_)
  · replace h := if_t c13 h
    conv => whnf
    refine cond_mk (fun c14 => ?_) (fun c14 => ?_)
    · replace h := if_t c14 h
      conv => whnf
      refine cond_mk (fun c15 => ?_) (fun c15 => ?_)
      · replace h := if_t c15 h
        conv => whnf
        refine cond_mk (fun c16 => ?_) (fun c16 => ?_)
        · replace h := if_t c16 h
          conv => whnf
          refine cond_mk (fun c17 => ?_) (fun c17 => ?_)
          · replace h := if_t c17 h
            conv => whnf
            refine cond_mk (fun c18 => ?_) (fun c18 => ?_)
            · replace h := if_t c18 h
              conv => whnf
              refine ⟨⟨(y11.2.1.length : Int), (len_map _ _).symm, ?_⟩⟩
              conv => whnf
              refine cond_mk (fun c19 => ?_) (fun c19 => ?_)
              · replace h := if_t c19 h
                conv => whnf
                replace h := bind_some h
                obtain ⟨x20, q21, h⟩ := h
                refine ⟨(ix_some q21).1, ?_⟩
                conv => whnf
                refine ⟨⟨_, map_get encS (ix_some q21).2, ?_⟩⟩
                conv => whnf
                refine ⟨rfl, ?_⟩
                conv => whnf
                refine ⟨⟨(decide (x20 = [97])), bs_eq _ _, ?_⟩⟩
                conv => whnf
                refine Tri.run (G := gm_law04_shown) tyOk mixed ?_
                conv => whnf
                refine fin_here ?_
                conv => whnf
                obtain rfl := Option.some.inj h
                rfl
              · replace h := if_f c19 h
                conv => whnf
                refine Tri.run (G := gm_law04_shown) tyOk mixed ?_
                conv => whnf
                refine fin_here ?_
                conv => whnf
                obtain rfl := Option.some.inj h
                rfl
            · replace h := if_f c18 h
              conv => whnf
              refine Tri.run (G := gm_law04_shown) tyOk mixed ?_
              conv => whnf
              refine fin_here ?_
              conv => whnf
              obtain rfl := Option.some.inj h
              rfl
          · replace h := if_f c17 h
            conv => whnf
            refine Tri.run (G := gm_law04_shown) tyOk mixed ?_
            conv => whnf
            refine fin_here ?_
            conv => whnf
            obtain rfl := Option.some.inj h
            rfl
        · replace h := if_f c16 h
          conv => whnf
          refine Tri.run (G := gm_law04_shown) tyOk mixed ?_
          conv => whnf
          refine fin_here ?_
          conv => whnf
          obtain rfl := Option.some.inj h
          rfl
      · replace h := if_f c15 h
        conv => whnf
        refine Tri.run (G := gm_law04_shown) tyOk mixed ?_
        conv => whnf
        refine fin_here ?_
        conv => whnf
        obtain rfl := Option.some.inj h
        rfl
    · replace h := if_f c14 h
      conv => whnf
      refine Tri.run (G := gm_law04_shown) tyOk mixed ?_
      conv => whnf
      refine fin_here ?_
      conv => whnf
      obtain rfl := Option.some.inj h
      rfl
  · replace h := if_f c13 h
    conv => whnf
    refine Tri.run (G := gm_law04_shown) tyOk mixed ?_
    conv => whnf
    refine fin_here ?_
    conv => whnf
    obtain rfl := Option.some.inj h
    rfl
noncomputable def ref01_TakeNum_l2 (s : Str) (a170 : Int) : Option ((Int) ⊕ (Int)) :=
  (
    if (decide (a170 < (s.length : Int))) then
      (ix s a170).bind fun x203 =>
      if (decide ((x203.toNat : Int) ≥ 48)) then
        some (decide ((x203.toNat : Int) ≤ 57))
      else
        some false
    else
      some false).bind fun (y200 : Bool) =>
  if y200 then
    some (.inl (IntKind.i64.wrap (a170 + 1)))
  else
    some (.inr a170)
noncomputable def ref01_TakeNum_l4 (s : Str) (y171 : Int) (a405 : Int) (a406 : Int) : Option ((Int × Int) ⊕ ((Unit) ⊕ (Int))) :=
  if (decide (a406 < y171)) then
    (ix s a406).bind fun x438 =>
    if ((decide (a405 > 1844674407370955161)) || ((decide (a405 = 1844674407370955161)) && (decide ((IntKind.u64.wrap (IntKind.u8.wrap ((x438.toNat : Int) - 48))) > 5)))) then
      some (.inr (.inl ()))
    else
      some (.inl ((IntKind.u64.wrap ((IntKind.u64.wrap (10 * a405)) + (IntKind.u64.wrap (IntKind.u8.wrap ((x438.toNat : Int) - 48))))), (IntKind.i64.wrap (a406 + 1))))
  else
    some (.inr (.inr a405))
noncomputable def ref01_TakeNum (s : Str) : Option (Int × Str × Int) :=
  (loop (fun (s173 : Int) => ref01_TakeNum_l2 s s173) (0 : Int)).bind fun (y171 : Int) =>
  (
    if (decide (y171 > 20)) then
      some true
    else
      if (decide (y171 > 1)) then
        (ix s 0).bind fun x237 =>
        some (decide ((x237.toNat : Int) = 48))
      else
        some false).bind fun (y233 : Bool) =>
  if y233 then
    some (0, [], 3)
  else
    (loop (fun (s411 : Int × Int) => ref01_TakeNum_l4 s y171 s411.1 s411.2) ((0 : Int), (0 : Int))).bind fun (y407 : (Unit) ⊕ (Int)) =>
    match y407 with
    | (.inl v409) =>
      some (0, [], 3)
    | (.inr v410) =>
      if (decide (y171 = (s.length : Int))) then
        some (0, [], 2)
      else
        (
          (ix s y171).bind fun x484 =>
          if (!(decide ((x484.toNat : Int) = 59))) then
            some true
          else
            some (decide (y171 = 0))).bind fun (y482 : Bool) =>
        if y482 then
          some (0, [], 3)
        else
          need (0 ≤ (IntKind.i64.wrap (y171 + 1)) ∧ (IntKind.i64.wrap (y171 + 1)) ≤ (s.length : Int) ∧ (s.length : Int) ≤ (s.length : Int)) <|
          some (v410, (cut s (IntKind.i64.wrap (y171 + 1)) (s.length : Int)), 0)
def gm_ref01_TakeNum : Gm := ⟨tys, [], [], []⟩
theorem ref01_TakeNum_walk (s : Str) (r : Int × Str × Int) (h : ref01_TakeNum s = some r) : PureP Try.prog 57 [.v (.string (bs s))] (fun a => a = .tup [.v (.int .u64 r.1), .v (.string (bs r.2.1)), .v (.int .i64 r.2.2)]) := by
  unfold ref01_TakeNum at h
  refine pureW (G := gm_ref01_TakeNum) tyOk Try.func57 rfl (by kernel_rfl) (by simp [Try.f57]) ?_
  refine Tri.seqK ?_
  refine Tri.run (G := gm_ref01_TakeNum) tyOk mixed ?_
  conv => whnf
  refine Tri.seqK ?_
  refine Tri.run (G := gm_ref01_TakeNum) tyOk mixed ?_
  conv => whnf
  refine Tri.seqK ?_
  refine Tri.block ?_
  replace h := bind_some h
  obtain ⟨y171, q172, h⟩ := h
  refine Tri.cut (fun ex S' => ex = (.exit 0) ∧ Weak S' ⟨79, 0, ofRegs [(0, .v (.string (bs s))), (5, .v (.int .i64 y171))], []⟩) ?_ ?_
  · refine Tri.loopF (fun (s173 : Int) => (⟨79, 0, ofRegs [(0, .v (.string (bs s))), (5, .v (.int .i64 s173))], []⟩ : St)) q172 (weak_fin _ rfl rfl rfl (LeH.rest) (.cons (.one (.same rfl)) (.cons (.one (.same rfl)) (.nil))) rfl rfl) ?_
    rintro a170 v174 hv r175
    have hv : ref01_TakeNum_l2 s a170 = some v174 := hv
    unfold ref01_TakeNum_l2 at hv
    refine Tri.seqK ?_
    refine Tri.seqK ?_
    replace hv := bind_some hv
    obtain ⟨y200, q201, hv⟩ := hv
    refine Tri.cut (fun ex S' => ex = .normal ∧ Weak S' ⟨79, 0, ofRegs [(0, .v (.string (bs s))), (5, .v (.int .i64 a170)), (24, .v (.bool y200))], []⟩) ?_ ?_
    · refine Tri.run (G := gm_ref01_TakeNum) tyOk mixed ?_
      conv => whnf
      refine ⟨⟨(s.length : Int), rfl, ?_⟩⟩
      conv => whnf
      refine cond_mk (fun c202 => ?_) (fun c202 => ?_)
      · replace q201 := if_t c202 q201
        conv => whnf
        replace q201 := bind_some q201
        obtain ⟨x203, q204, q201⟩ := q201
        refine ⟨bs_bound q204, ?_⟩
        conv => whnf
        refine ⟨⟨(x203.toNat : Int), bs_at q204, ?_⟩⟩
        conv => whnf
        refine cond_mk (fun c205 => ?_) (fun c205 => ?_)
        · replace q201 := if_t c205 q201
          conv => whnf
          refine ⟨bs_bound q204, ?_⟩
          conv => whnf
          refine ⟨⟨(x203.toNat : Int), bs_at q204, ?_⟩⟩
          conv => whnf
          obtain rfl := Option.some.inj q201
          exact ⟨rfl, weak_fin _ rfl rfl rfl (LeH.rest) (.cons (.one (.same rfl)) (.cons (.one (.same rfl)) (.cons (.one (.same rfl)) (.nil)))) rfl rfl⟩
        · replace q201 := if_f c205 q201
          conv => whnf
          obtain rfl := Option.some.inj q201
          exact ⟨rfl, weak_fin _ rfl rfl rfl (LeH.rest) (.cons (.one (.same rfl)) (.cons (.one (.same rfl)) (.cons (.one (.same rfl)) (.nil)))) rfl rfl⟩
      · replace q201 := if_f c202 q201
        conv => whnf
        obtain rfl := Option.some.inj q201
        exact ⟨rfl, weak_fin _ rfl rfl rfl (LeH.rest) (.cons (.one (.same rfl)) (.cons (.one (.same rfl)) (.cons (.one (.same rfl)) (.nil)))) rfl rfl⟩
    · rintro ex S' ⟨rfl, w206⟩
      conv => whnf
      refine Tri.weak w206 ?_
      refine Tri.cond rfl (fun c207 => ?_) (fun c207 => ?_)
      · replace hv := if_t c207 hv
        refine Tri.run (G := gm_ref01_TakeNum) tyOk mixed ?_
        conv => whnf
        refine Tri.block ?_
        refine Tri.run (G := gm_ref01_TakeNum) tyOk mixed ?_
        conv => whnf
        obtain rfl := Option.some.inj hv
        exact ⟨_, rfl, weak_fin _ rfl rfl rfl (LeH.rest) (.cons (.one (.same rfl)) (.cons (.one (.same rfl)) (.nil))) rfl rfl⟩
      · replace hv := if_f c207 hv
        refine Tri.run (G := gm_ref01_TakeNum) tyOk mixed ?_
        conv => whnf
        obtain rfl := Option.some.inj hv
        obtain rfl := r175 _ rfl
        exact ⟨rfl, weak_fin _ rfl rfl rfl (LeH.rest) (.cons (.one (.same rfl)) (.cons (.one (.same rfl)) (.nil))) rfl rfl⟩
  · rintro ex S' ⟨rfl, w208⟩
    conv => whnf
    refine Tri.weak w208 ?_
    refine Tri.seqK ?_
    refine Tri.seqK ?_
    replace h := bind_some h
    obtain ⟨y233, q234, h⟩ := h
    refine Tri.cut (fun ex S' => ex = .normal ∧ Weak S' ⟨79, 0, ofRegs [(0, .v (.string (bs s))), (5, .v (.int .i64 y171)), (37, .v (.bool y233))], []⟩) ?_ ?_
    · refine Tri.run (G := gm_ref01_TakeNum) tyOk mixed ?_
      conv => whnf
      refine cond_mk (fun c235 => ?_) (fun c235 => ?_)
      · replace q234 := if_t c235 q234
        conv => whnf
        obtain rfl := Option.some.inj q234
        exact ⟨rfl, weak_fin _ rfl rfl rfl (LeH.rest) (.cons (.one (.same rfl)) (.cons (.one (.same rfl)) (.cons (.one (.same rfl)) (.nil)))) rfl rfl⟩
      · replace q234 := if_f c235 q234
        conv => whnf
        refine cond_mk (fun c236 => ?_) (fun c236 => ?_)
        · replace q234 := if_t c236 q234
          conv => whnf
          replace q234 := bind_some q234
          obtain ⟨x237, q238, q234⟩ := q234
          refine ⟨bs_bound q238, ?_⟩
          conv => whnf
          refine ⟨⟨(x237.toNat : Int), bs_at q238, ?_⟩⟩
          conv => whnf
          obtain rfl := Option.some.inj q234
          exact ⟨rfl, weak_fin _ rfl rfl rfl (LeH.rest) (.cons (.one (.same rfl)) (.cons (.one (.same rfl)) (.cons (.one (.same rfl)) (.nil)))) rfl rfl⟩
        · replace q234 := if_f c236 q234
          conv => whnf
          obtain rfl := Option.some.inj q234
          exact ⟨rfl, weak_fin _ rfl rfl rfl (LeH.rest) (.cons (.one (.same rfl)) (.cons (.one (.same rfl)) (.cons (.one (.same rfl)) (.nil)))) rfl rfl⟩
    · rintro ex S' ⟨rfl, w239⟩
      conv => whnf
      refine Tri.weak w239 ?_
      refine Tri.cond rfl (fun c240 => ?_) (fun c240 => ?_)
      · replace h := if_t c240 h
        refine Tri.seqK ?_
        refine Tri.run (G := gm_ref01_TakeNum) tyOk mixed ?_
        conv => whnf
        refine Tri.run (G := gm_ref01_TakeNum) tyOk mixed ?_
        conv => whnf
        refine fin_here ?_
        conv => whnf
        obtain rfl := Option.some.inj h
        rfl
      · replace h := if_f c240 h
        refine Tri.run (G := gm_ref01_TakeNum) tyOk mixed ?_
        conv => whnf
        refine Tri.seqK ?_
        refine Tri.run (G := gm_ref01_TakeNum) tyOk mixed ?_
        conv => whnf
        refine Tri.seqK ?_
        refine Tri.seqK ?_
        refine Tri.run (G := gm_ref01_TakeNum) tyOk mixed ?_
        conv => whnf
        refine Tri.block ?_
        replace h := bind_some h
        obtain ⟨y407, q408, h⟩ := h
        refine Tri.cut (fun ex S' => (∃ v409 : Unit, y407 = (.inl v409) ∧ ex = .ret ∧ Weak S' ⟨79, 0, ofRegs [(2, .v (.int .u64 0)), (3, .v (.string (bs []))), (4, .v (.int .i64 3))], []⟩) ∨ (∃ v410 : Int, y407 = (.inr v410) ∧ ex = (.exit 2) ∧ Weak S' ⟨79, 0, ofRegs [(0, .v (.string (bs s))), (5, .v (.int .i64 y171)), (6, .v (.int .u64 v410))], []⟩)) ?_ ?_
        · refine Tri.loopF (fun (s411 : Int × Int) => (⟨79, 0, ofRegs [(0, .v (.string (bs s))), (5, .v (.int .i64 y171)), (6, .v (.int .u64 s411.1)), (7, .v (.int .i64 s411.2))], []⟩ : St)) q408 (weak_fin _ rfl rfl rfl (LeH.rest) (.cons (.one (.same rfl)) (.cons (.one (.same rfl)) (.cons (.one (.same rfl)) (.cons (.one (.same rfl)) (.nil))))) rfl rfl) ?_
          rintro ⟨a405, a406⟩ v412 hv r413
          have hv : ref01_TakeNum_l4 s y171 a405 a406 = some v412 := hv
          unfold ref01_TakeNum_l4 at hv
          dsimp only
          refine Tri.seqK ?_
          refine Tri.seqK ?_
          refine Tri.run (G := gm_ref01_TakeNum) tyOk mixed ?_
          conv => whnf
          refine Tri.cond rfl (fun c415 => ?_) (fun c415 => ?_)
          · replace hv := if_t c415 hv
            refine Tri.run (G := gm_ref01_TakeNum) tyOk mixed ?_
            conv => whnf
            refine Tri.seqK ?_
            refine Tri.block ?_
            refine Tri.seqK ?_
            refine Tri.run (G := gm_ref01_TakeNum) tyOk mixed ?_
            conv => whnf
            replace hv := bind_some hv
            obtain ⟨x438, q439, hv⟩ := hv
            refine ⟨bs_bound q439, ?_⟩
            conv => whnf
            refine ⟨⟨(x438.toNat : Int), bs_at q439, ?_⟩⟩
            conv => whnf
            refine ⟨⟨(IntKind.u64.wrap (IntKind.u8.wrap ((x438.toNat : Int) - 48))), rfl, ?_⟩⟩
            conv => whnf
            refine Tri.seqK ?_
            refine Tri.seqK ?_
            refine Tri.cut (fun ex S' => ex = .normal ∧ Weak S' ⟨79, 0, ofRegs [(0, .v (.string (bs s))), (5, .v (.int .i64 y171)), (6, .v (.int .u64 a405)), (7, .v (.int .i64 a406)), (8, .v (.int .u64 (IntKind.u64.wrap (IntKind.u8.wrap ((x438.toNat : Int) - 48))))), (57, .v (.bool ((decide (a405 > 1844674407370955161)) || ((decide (a405 = 1844674407370955161)) && (decide ((IntKind.u64.wrap (IntKind.u8.wrap ((x438.toNat : Int) - 48))) > 5))))))], []⟩) ?_ ?_
            · refine Tri.run (G := gm_ref01_TakeNum) tyOk mixed ?_
              conv => whnf
              refine cond_mk (fun c456 => ?_) (fun c456 => ?_)
              · replace c456 : (decide (a405 > 1844674407370955161)) = true := c456
                conv => whnf
                exact ⟨rfl, weak_fin _ rfl rfl rfl (LeH.rest) (.cons (.one (.same rfl)) (.cons (.one (.same rfl)) (.cons (.one (.same rfl)) (.cons (.one (.same rfl)) (.cons (.one (.same rfl)) (.cons (.one (.same (show (.v (.bool true) : AV) = (.v (.bool ((decide (a405 > 1844674407370955161)) || ((decide (a405 = 1844674407370955161)) && (decide ((IntKind.u64.wrap (IntKind.u8.wrap ((x438.toNat : Int) - 48))) > 5))))) : AV) from by first | (simp [c456]; done) | simp only [c456, Bool.or_true, Bool.true_or, Bool.false_or, Bool.or_false, Bool.and_true, Bool.true_and, Bool.and_false, Bool.false_and, Bool.not_true, Bool.not_false, if_true, if_false, Bool.false_eq_true]))) (.nil))))))) rfl rfl⟩
              · replace c456 : (decide (a405 > 1844674407370955161)) = false := c456
                conv => whnf
                refine cond_mk (fun c457 => ?_) (fun c457 => ?_)
                · replace c457 : (decide (a405 = 1844674407370955161)) = true := c457
                  conv => whnf
                  exact ⟨rfl, weak_fin _ rfl rfl rfl (LeH.rest) (.cons (.one (.same rfl)) (.cons (.one (.same rfl)) (.cons (.one (.same rfl)) (.cons (.one (.same rfl)) (.cons (.one (.same rfl)) (.cons (.one (.same (show (.v (.bool (decide ((IntKind.u64.wrap (IntKind.u8.wrap ((x438.toNat : Int) - 48))) > 5))) : AV) = (.v (.bool ((decide (a405 > 1844674407370955161)) || ((decide (a405 = 1844674407370955161)) && (decide ((IntKind.u64.wrap (IntKind.u8.wrap ((x438.toNat : Int) - 48))) > 5))))) : AV) from by first | (simp [c456, c457]; done) | simp only [c456, c457, Bool.or_true, Bool.true_or, Bool.false_or, Bool.or_false, Bool.and_true, Bool.true_and, Bool.and_false, Bool.false_and, Bool.not_true, Bool.not_false, if_true, if_false, Bool.false_eq_true]))) (.nil))))))) rfl rfl⟩
                · replace c457 : (decide (a405 = 1844674407370955161)) = false := c457
                  conv => whnf
                  exact ⟨rfl, weak_fin _ rfl rfl rfl (LeH.rest) (.cons (.one (.same rfl)) (.cons (.one (.same rfl)) (.cons (.one (.same rfl)) (.cons (.one (.same rfl)) (.cons (.one (.same rfl)) (.cons (.one (.same (show (.v (.bool false) : AV) = (.v (.bool ((decide (a405 > 1844674407370955161)) || ((decide (a405 = 1844674407370955161)) && (decide ((IntKind.u64.wrap (IntKind.u8.wrap ((x438.toNat : Int) - 48))) > 5))))) : AV) from by first | (simp [c456, c457]; done) | simp only [c456, c457, Bool.or_true, Bool.true_or, Bool.false_or, Bool.or_false, Bool.and_true, Bool.true_and, Bool.and_false, Bool.false_and, Bool.not_true, Bool.not_false, if_true, if_false, Bool.false_eq_true]))) (.nil))))))) rfl rfl⟩
            · rintro ex S' ⟨rfl, w458⟩
              conv => whnf
              refine Tri.weak w458 ?_
              refine Tri.cond rfl (fun c459 => ?_) (fun c459 => ?_)
              · replace hv := if_t c459 hv
                refine Tri.seqK ?_
                refine Tri.run (G := gm_ref01_TakeNum) tyOk mixed ?_
                conv => whnf
                refine Tri.run (G := gm_ref01_TakeNum) tyOk mixed ?_
                conv => whnf
                obtain rfl := Option.some.inj hv
                obtain rfl := r413 _ rfl
                exact Or.inl ⟨_, rfl, rfl, weak_fin _ rfl rfl rfl (LeH.rest) (.cons (.one (.same rfl)) (.cons (.one (.same rfl)) (.cons (.one (.same rfl)) (.nil)))) rfl rfl⟩
              · replace hv := if_f c459 hv
                refine Tri.run (G := gm_ref01_TakeNum) tyOk mixed ?_
                conv => whnf
                refine Tri.run (G := gm_ref01_TakeNum) tyOk mixed ?_
                conv => whnf
                refine Tri.run (G := gm_ref01_TakeNum) tyOk mixed ?_
                conv => whnf
                obtain rfl := Option.some.inj hv
                exact ⟨_, rfl, weak_fin _ rfl rfl rfl (LeH.rest) (.cons (.one (.same rfl)) (.cons (.one (.same rfl)) (.cons (.one (.same rfl)) (.cons (.one (.same rfl)) (.nil))))) rfl rfl⟩
          · replace hv := if_f c415 hv
            refine Tri.run (G := gm_ref01_TakeNum) tyOk mixed ?_
            conv => whnf
            obtain rfl := Option.some.inj hv
            obtain rfl := r413 _ rfl
            exact Or.inr (⟨_, rfl, rfl, weak_fin _ rfl rfl rfl (LeH.rest) (.cons (.one (.same rfl)) (.cons (.one (.same rfl)) (.cons (.one (.same rfl)) (.nil)))) rfl rfl⟩)
        · rintro ex S' (⟨v409, rfl, rfl, w460⟩ | ⟨v410, rfl, rfl, w460⟩)
          · dsimp only at h
            conv => whnf
            refine fin_pre w460 ?_
            conv => whnf
            obtain rfl := Option.some.inj h
            rfl
          · dsimp only at h
            conv => whnf
            refine Tri.weak w460 ?_
            refine Tri.seqK ?_
            refine Tri.seqK ?_
            refine Tri.run (G := gm_ref01_TakeNum) tyOk mixed ?_
            conv => whnf
            refine ⟨⟨(s.length : Int), rfl, ?_⟩⟩
            conv => whnf
            refine Tri.cond rfl (fun c462 => ?_) (fun c462 => ?_)
            · replace h := if_t c462 h
              refine Tri.seqK ?_
              refine Tri.run (G := gm_ref01_TakeNum) tyOk mixed ?_
              conv => whnf
              refine Tri.run (G := gm_ref01_TakeNum) tyOk mixed ?_
              conv => whnf
              refine fin_here ?_
              conv => whnf
              obtain rfl := Option.some.inj h
              rfl
            · replace h := if_f c462 h
              refine Tri.run (G := gm_ref01_TakeNum) tyOk mixed ?_
              conv => whnf
              refine Tri.seqK ?_
              refine Tri.seqK ?_
              replace h := bind_some h
              obtain ⟨y482, q483, h⟩ := h
              refine Tri.cut (fun ex S' => ex = .normal ∧ Weak S' ⟨79, 0, ofRegs [(0, .v (.string (bs s))), (5, .v (.int .i64 y171)), (6, .v (.int .u64 v410)), (73, .v (.bool y482))], []⟩) ?_ ?_
              · refine Tri.run (G := gm_ref01_TakeNum) tyOk mixed ?_
                conv => whnf
                replace q483 := bind_some q483
                obtain ⟨x484, q485, q483⟩ := q483
                refine ⟨bs_bound q485, ?_⟩
                conv => whnf
                refine ⟨⟨(x484.toNat : Int), bs_at q485, ?_⟩⟩
                conv => whnf
                refine cond_mk (fun c486 => ?_) (fun c486 => ?_)
                · replace q483 := if_t c486 q483
                  conv => whnf
                  obtain rfl := Option.some.inj q483
                  exact ⟨rfl, weak_fin _ rfl rfl rfl (LeH.rest) (.cons (.one (.same rfl)) (.cons (.one (.same rfl)) (.cons (.one (.same rfl)) (.cons (.one (.same rfl)) (.nil))))) rfl rfl⟩
                · replace q483 := if_f c486 q483
                  conv => whnf
                  obtain rfl := Option.some.inj q483
                  exact ⟨rfl, weak_fin _ rfl rfl rfl (LeH.rest) (.cons (.one (.same rfl)) (.cons (.one (.same rfl)) (.cons (.one (.same rfl)) (.cons (.one (.same rfl)) (.nil))))) rfl rfl⟩
              · rintro ex S' ⟨rfl, w487⟩
                conv => whnf
                refine Tri.weak w487 ?_
                refine Tri.cond rfl (fun c488 => ?_) (fun c488 => ?_)
                · replace h := if_t c488 h
                  refine Tri.seqK ?_
                  refine Tri.run (G := gm_ref01_TakeNum) tyOk mixed ?_
                  conv => whnf
                  refine Tri.run (G := gm_ref01_TakeNum) tyOk mixed ?_
                  conv => whnf
                  refine fin_here ?_
                  conv => whnf
                  obtain rfl := Option.some.inj h
                  rfl
                · replace h := if_f c488 h
                  refine Tri.run (G := gm_ref01_TakeNum) tyOk mixed ?_
                  conv => whnf
                  refine Tri.seqK ?_
                  refine Tri.run (G := gm_ref01_TakeNum) tyOk mixed ?_
                  conv => whnf
                  refine Draw.one 8 (.take 0 (.take 1 (.take 2 (.take 3 (.take 4 (.take 5 (.take 6 (.take 7 (.fin))))))))) [] (by kernel_rfl) ?_
                  conv => whnf
                  replace h := need_some h
                  obtain ⟨p490, h⟩ := h
                  refine ⟨p490, ?_⟩
                  conv => whnf
                  refine ⟨⟨bs (cut s (IntKind.i64.wrap (y171 + 1)) (s.length : Int)), bs_cut _ _ _, ?_⟩⟩
                  conv => whnf
                  refine Tri.run (G := gm_ref01_TakeNum) tyOk mixed ?_
                  conv => whnf
                  refine fin_here ?_
                  conv => whnf
                  obtain rfl := Option.some.inj h
                  rfl
noncomputable def ref01_TakeText (s : Str) (most : Int) : Option (Str × Str × Int) :=
  (ref01_TakeNum s).bind fun y1 =>
  if (!(decide (y1.2.2 = 0))) then
    some ([], [], y1.2.2)
  else
    if ((decide (most < 0)) || (decide (y1.1 > (IntKind.u64.wrap most)))) then
      some ([], [], 4)
    else
      if (decide (y1.1 > (IntKind.u64.wrap (y1.2.1.length : Int)))) then
        some ([], [], 2)
      else
        need (0 ≤ (0 : Int) ∧ 0 ≤ y1.1 ∧ y1.1 ≤ (y1.2.1.length : Int)) <|
        need (0 ≤ y1.1 ∧ y1.1 ≤ (y1.2.1.length : Int) ∧ (y1.2.1.length : Int) ≤ (y1.2.1.length : Int)) <|
        some ((cut y1.2.1 0 y1.1), (cut y1.2.1 y1.1 (y1.2.1.length : Int)), 0)
def gm_ref01_TakeText : Gm := ⟨tys, [], [], []⟩
theorem ref01_TakeText_walk (s : Str) (most : Int) (r : Str × Str × Int) (h : ref01_TakeText s most = some r) : PureP Try.prog 56 [.v (.string (bs s)), .v (.int .i64 most)] (fun a => a = .tup [.v (.string (bs r.1)), .v (.string (bs r.2.1)), .v (.int .i64 r.2.2)]) := by
  unfold ref01_TakeText at h
  refine pureW (G := gm_ref01_TakeText) tyOk Try.func56 rfl (by kernel_rfl) (by simp [Try.f56]) ?_
  refine Tri.seqK ?_
  refine Tri.run (G := gm_ref01_TakeText) tyOk mixed ?_
  conv => whnf
  refine Tri.seqK ?_
  refine Tri.run (G := gm_ref01_TakeText) tyOk mixed ?_
  conv => whnf
  replace h := bind_some h
  obtain ⟨y1, q2, h⟩ := h
  refine PureP.mono (ref01_TakeNum_walk s y1 q2) ?_
  rintro _ rfl
  conv => whnf
  refine Tri.seqK ?_
  refine Tri.seqK ?_
  refine Tri.run (G := gm_ref01_TakeText) tyOk mixed ?_
  conv => whnf
  refine Tri.cond rfl (fun c4 => ?_) (fun c4 => ?_)
  · replace h := if_t c4 h
    refine Tri.seqK ?_
    refine Tri.run (G := gm_ref01_TakeText) tyOk mixed ?_
    conv => whnf
    refine Tri.run (G := gm_ref01_TakeText) tyOk mixed ?_
    conv => whnf
    refine fin_here ?_
    conv => whnf
    obtain rfl := Option.some.inj h
    rfl
  · replace h := if_f c4 h
    refine Tri.run (G := gm_ref01_TakeText) tyOk mixed ?_
    conv => whnf
    refine Tri.seqK ?_
    refine Tri.seqK ?_
    refine Tri.cut (fun ex S' => ex = .normal ∧ Weak S' ⟨38, 0, ofRegs [(7, .v (.int .u64 y1.1)), (8, .v (.string (bs y1.2.1))), (26, .v (.bool ((decide (most < 0)) || (decide (y1.1 > (IntKind.u64.wrap most))))))], []⟩) ?_ ?_
    · refine Tri.run (G := gm_ref01_TakeText) tyOk mixed ?_
      conv => whnf
      refine cond_mk (fun c14 => ?_) (fun c14 => ?_)
      · replace c14 : (decide (most < 0)) = true := c14
        conv => whnf
        exact ⟨rfl, weak_fin _ rfl rfl rfl (LeH.rest) (.cons (.one (.same rfl)) (.cons (.one (.same rfl)) (.cons (.one (.same (show (.v (.bool true) : AV) = (.v (.bool ((decide (most < 0)) || (decide (y1.1 > (IntKind.u64.wrap most))))) : AV) from by first | (simp [c14]; done) | simp only [c14, Bool.or_true, Bool.true_or, Bool.false_or, Bool.or_false, Bool.and_true, Bool.true_and, Bool.and_false, Bool.false_and, Bool.not_true, Bool.not_false, if_true, if_false, Bool.false_eq_true]))) (.nil)))) rfl rfl⟩
      · replace c14 : (decide (most < 0)) = false := c14
        conv => whnf
        refine ⟨⟨(IntKind.u64.wrap most), rfl, ?_⟩⟩
        conv => whnf
        exact ⟨rfl, weak_fin _ rfl rfl rfl (LeH.rest) (.cons (.one (.same rfl)) (.cons (.one (.same rfl)) (.cons (.one (.same (show (.v (.bool (decide (y1.1 > (IntKind.u64.wrap most)))) : AV) = (.v (.bool ((decide (most < 0)) || (decide (y1.1 > (IntKind.u64.wrap most))))) : AV) from by first | (simp [c14]; done) | simp only [c14, Bool.or_true, Bool.true_or, Bool.false_or, Bool.or_false, Bool.and_true, Bool.true_and, Bool.and_false, Bool.false_and, Bool.not_true, Bool.not_false, if_true, if_false, Bool.false_eq_true]))) (.nil)))) rfl rfl⟩
    · rintro ex S' ⟨rfl, w15⟩
      conv => whnf
      refine Tri.weak w15 ?_
      refine Tri.cond rfl (fun c16 => ?_) (fun c16 => ?_)
      · replace h := if_t c16 h
        refine Tri.seqK ?_
        refine Tri.run (G := gm_ref01_TakeText) tyOk mixed ?_
        conv => whnf
        refine Tri.run (G := gm_ref01_TakeText) tyOk mixed ?_
        conv => whnf
        refine fin_here ?_
        conv => whnf
        obtain rfl := Option.some.inj h
        rfl
      · replace h := if_f c16 h
        refine Tri.run (G := gm_ref01_TakeText) tyOk mixed ?_
        conv => whnf
        refine Tri.seqK ?_
        refine Tri.seqK ?_
        refine Tri.run (G := gm_ref01_TakeText) tyOk mixed ?_
        conv => whnf
        refine ⟨⟨(y1.2.1.length : Int), rfl, ?_⟩⟩
        conv => whnf
        refine ⟨⟨(IntKind.u64.wrap (y1.2.1.length : Int)), rfl, ?_⟩⟩
        conv => whnf
        refine Tri.cond rfl (fun c18 => ?_) (fun c18 => ?_)
        · replace h := if_t c18 h
          refine Tri.seqK ?_
          refine Tri.run (G := gm_ref01_TakeText) tyOk mixed ?_
          conv => whnf
          refine Tri.run (G := gm_ref01_TakeText) tyOk mixed ?_
          conv => whnf
          refine fin_here ?_
          conv => whnf
          obtain rfl := Option.some.inj h
          rfl
        · replace h := if_f c18 h
          refine Tri.run (G := gm_ref01_TakeText) tyOk mixed ?_
          conv => whnf
          refine Tri.seqK ?_
          refine Tri.run (G := gm_ref01_TakeText) tyOk mixed ?_
          conv => whnf
          refine Draw.one 9 (.take 0 (.take 1 (.take 2 (.take 3 (.take 4 (.take 5 (.take 6 (.take 7 (.take 8 (.fin)))))))))) [] (by kernel_rfl) ?_
          conv => whnf
          replace h := need_some h
          obtain ⟨p21, h⟩ := h
          refine ⟨p21, ?_⟩
          conv => whnf
          refine ⟨⟨bs (cut y1.2.1 0 y1.1), bs_cut _ _ _, ?_⟩⟩
          conv => whnf
          replace h := need_some h
          obtain ⟨p22, h⟩ := h
          refine ⟨p22, ?_⟩
          conv => whnf
          refine ⟨⟨bs (cut y1.2.1 y1.1 (y1.2.1.length : Int)), bs_cut _ _ _, ?_⟩⟩
          conv => whnf
          refine Tri.run (G := gm_ref01_TakeText) tyOk mixed ?_
          conv => whnf
          refine fin_here ?_
          conv => whnf
          obtain rfl := Option.some.inj h
          rfl
noncomputable def ref02_Of_l2 (s : Str) (a36 : Int) (a37 : Int) (a38 : Int) : Option ((Int × Int × Int) ⊕ (Int × Int)) :=
  if (decide (a38 < (s.length : Int))) then
    (ix s a38).bind fun x46 =>
    some (.inl ((Int.tmod (IntKind.i64.wrap (a36 + (IntKind.i64.wrap (x46.toNat : Int)))) 65521), (Int.tmod (IntKind.i64.wrap (a37 + (Int.tmod (IntKind.i64.wrap (a36 + (IntKind.i64.wrap (x46.toNat : Int)))) 65521))) 65521), (IntKind.i64.wrap (a38 + 1))))
  else
    some (.inr (a36, a37))
noncomputable def ref02_Of (s : Str) : Option (Int) :=
  (loop (fun (s41 : Int × Int × Int) => ref02_Of_l2 s s41.1 s41.2.1 s41.2.2) ((1 : Int), (0 : Int), (0 : Int))).bind fun (y39 : Int × Int) =>
  some (IntKind.u32.wrap (IntKind.i64.wrap ((IntKind.i64.wrap (65536 * y39.2)) + y39.1)))
def gm_ref02_Of : Gm := ⟨tys, [], [], []⟩
theorem ref02_Of_walk (s : Str) (r : Int) (h : ref02_Of s = some r) : PureP Try.prog 49 [.v (.string (bs s))] (fun a => a = .v (.int .u32 r)) := by
  unfold ref02_Of at h
  refine pureW (G := gm_ref02_Of) tyOk Try.func49 rfl (by kernel_rfl) (by simp [Try.f49]) ?_
  refine Tri.seqK ?_
  refine Tri.run (G := gm_ref02_Of) tyOk mixed ?_
  conv => whnf
  refine Tri.seqK ?_
  refine Tri.run (G := gm_ref02_Of) tyOk mixed ?_
  conv => whnf
  refine Tri.seqK ?_
  refine Tri.run (G := gm_ref02_Of) tyOk mixed ?_
  conv => whnf
  refine Tri.seqK ?_
  refine Tri.seqK ?_
  refine Tri.run (G := gm_ref02_Of) tyOk mixed ?_
  conv => whnf
  refine Tri.block ?_
  replace h := bind_some h
  obtain ⟨y39, q40, h⟩ := h
  refine Tri.cut (fun ex S' => ex = (.exit 0) ∧ Weak S' ⟨28, 0, ofRegs [(3, .v (.int .i64 y39.1)), (4, .v (.int .i64 y39.2))], []⟩) ?_ ?_
  · refine Tri.loopF (fun (s41 : Int × Int × Int) => (⟨28, 0, ofRegs [(0, .v (.string (bs s))), (3, .v (.int .i64 s41.1)), (4, .v (.int .i64 s41.2.1)), (5, .v (.int .i64 s41.2.2))], []⟩ : St)) q40 (weak_fin _ rfl rfl rfl (LeH.rest) (.cons (.one (.same rfl)) (.cons (.one (.same rfl)) (.cons (.one (.same rfl)) (.cons (.one (.same rfl)) (.nil))))) rfl rfl) ?_
    rintro ⟨a36, a37, a38⟩ v42 hv r43
    have hv : ref02_Of_l2 s a36 a37 a38 = some v42 := hv
    unfold ref02_Of_l2 at hv
    dsimp only
    refine Tri.seqK ?_
    refine Tri.seqK ?_
    refine Tri.run (G := gm_ref02_Of) tyOk mixed ?_
    conv => whnf
    refine ⟨⟨(s.length : Int), rfl, ?_⟩⟩
    conv => whnf
    refine Tri.cond rfl (fun c45 => ?_) (fun c45 => ?_)
    · replace hv := if_t c45 hv
      refine Tri.run (G := gm_ref02_Of) tyOk mixed ?_
      conv => whnf
      refine Tri.seqK ?_
      refine Tri.block ?_
      refine Tri.seqK ?_
      refine Tri.run (G := gm_ref02_Of) tyOk mixed ?_
      conv => whnf
      replace hv := bind_some hv
      obtain ⟨x46, q47, hv⟩ := hv
      refine ⟨bs_bound q47, ?_⟩
      conv => whnf
      refine ⟨⟨(x46.toNat : Int), bs_at q47, ?_⟩⟩
      conv => whnf
      refine ⟨⟨(IntKind.i64.wrap (x46.toNat : Int)), rfl, ?_⟩⟩
      conv => whnf
      refine ⟨by decide, ?_⟩
      conv => whnf
      refine Tri.run (G := gm_ref02_Of) tyOk mixed ?_
      conv => whnf
      refine ⟨by decide, ?_⟩
      conv => whnf
      refine Tri.run (G := gm_ref02_Of) tyOk mixed ?_
      conv => whnf
      obtain rfl := Option.some.inj hv
      exact ⟨_, rfl, weak_fin _ rfl rfl rfl (LeH.rest) (.cons (.one (.same rfl)) (.cons (.one (.same rfl)) (.cons (.one (.same rfl)) (.cons (.one (.same rfl)) (.nil))))) rfl rfl⟩
    · replace hv := if_f c45 hv
      refine Tri.run (G := gm_ref02_Of) tyOk mixed ?_
      conv => whnf
      obtain rfl := Option.some.inj hv
      obtain rfl := r43 _ rfl
      exact ⟨rfl, weak_fin _ rfl rfl rfl (LeH.rest) (.cons (.one (.same rfl)) (.cons (.one (.same rfl)) (.nil))) rfl rfl⟩
  · rintro ex S' ⟨rfl, w48⟩
    conv => whnf
    refine Tri.weak w48 ?_
    refine Tri.seqK ?_
    refine Tri.run (G := gm_ref02_Of) tyOk mixed ?_
    conv => whnf
    refine ⟨⟨(IntKind.u32.wrap (IntKind.i64.wrap ((IntKind.i64.wrap (65536 * y39.2)) + y39.1))), rfl, ?_⟩⟩
    conv => whnf
    refine Tri.run (G := gm_ref02_Of) tyOk mixed ?_
    conv => whnf
    refine fin_here ?_
    conv => whnf
    obtain rfl := Option.some.inj h
    rfl
noncomputable def ref02_Open (f : Str) (most : Int) : Option (Str × Str × Int) :=
  (ref01_TakeText f most).bind fun y1 =>
  if (!(decide (y1.2.2 = 0))) then
    some ([], [], y1.2.2)
  else
    (ref01_TakeNum y1.2.1).bind fun y5 =>
    if (!(decide (y5.2.2 = 0))) then
      some ([], [], y5.2.2)
    else
      (ref02_Of y1.1).bind fun y12 =>
      if (!(decide (y5.1 = (IntKind.u64.wrap y12)))) then
        some ([], [], 10)
      else
        some (y1.1, y5.2.1, 0)
def gm_ref02_Open : Gm := ⟨tys, [], [], []⟩
theorem ref02_Open_walk (f : Str) (most : Int) (r : Str × Str × Int) (h : ref02_Open f most = some r) : PureP Try.prog 34 [.v (.string (bs f)), .v (.int .i64 most)] (fun a => a = .tup [.v (.string (bs r.1)), .v (.string (bs r.2.1)), .v (.int .i64 r.2.2)]) := by
  unfold ref02_Open at h
  refine pureW (G := gm_ref02_Open) tyOk Try.func34 rfl (by kernel_rfl) (by simp [Try.f34]) ?_
  refine Tri.seqK ?_
  refine Tri.run (G := gm_ref02_Open) tyOk mixed ?_
  conv => whnf
  refine Tri.seqK ?_
  refine Tri.run (G := gm_ref02_Open) tyOk mixed ?_
  conv => whnf
  replace h := bind_some h
  obtain ⟨y1, q2, h⟩ := h
  refine PureP.mono (ref01_TakeText_walk f most y1 q2) ?_
  rintro _ rfl
  conv => whnf
  refine Tri.seqK ?_
  refine Tri.seqK ?_
  refine Tri.run (G := gm_ref02_Open) tyOk mixed ?_
  conv => whnf
  refine Tri.cond rfl (fun c4 => ?_) (fun c4 => ?_)
  · replace h := if_t c4 h
    refine Tri.seqK ?_
    refine Tri.run (G := gm_ref02_Open) tyOk mixed ?_
    conv => whnf
    refine Tri.run (G := gm_ref02_Open) tyOk mixed ?_
    conv => whnf
    refine fin_here ?_
    conv => whnf
    obtain rfl := Option.some.inj h
    rfl
  · replace h := if_f c4 h
    refine Tri.run (G := gm_ref02_Open) tyOk mixed ?_
    conv => whnf
    refine Tri.seqK ?_
    refine Tri.run (G := gm_ref02_Open) tyOk mixed ?_
    conv => whnf
    replace h := bind_some h
    obtain ⟨y5, q6, h⟩ := h
    refine PureP.mono (ref01_TakeNum_walk y1.2.1 y5 q6) ?_
    rintro _ rfl
    conv => whnf
    refine Tri.seqK ?_
    refine Tri.seqK ?_
    refine Tri.run (G := gm_ref02_Open) tyOk mixed ?_
    conv => whnf
    refine Tri.cond rfl (fun c8 => ?_) (fun c8 => ?_)
    · replace h := if_t c8 h
      refine Tri.seqK ?_
      refine Tri.run (G := gm_ref02_Open) tyOk mixed ?_
      conv => whnf
      refine Tri.run (G := gm_ref02_Open) tyOk mixed ?_
      conv => whnf
      refine fin_here ?_
      conv => whnf
      obtain rfl := Option.some.inj h
      rfl
    · replace h := if_f c8 h
      refine Tri.run (G := gm_ref02_Open) tyOk mixed ?_
      conv => whnf
      refine Tri.seqK ?_
      refine Tri.seqK ?_
      refine Tri.run (G := gm_ref02_Open) tyOk mixed ?_
      conv => whnf
      replace h := bind_some h
      obtain ⟨y12, q13, h⟩ := h
      refine PureP.mono (ref02_Of_walk y1.1 y12 q13) ?_
      rintro _ rfl
      conv => whnf
      refine ⟨⟨(IntKind.u64.wrap y12), rfl, ?_⟩⟩
      conv => whnf
      refine Tri.cond rfl (fun c14 => ?_) (fun c14 => ?_)
      · replace h := if_t c14 h
        refine Tri.seqK ?_
        refine Tri.run (G := gm_ref02_Open) tyOk mixed ?_
        conv => whnf
        refine Tri.run (G := gm_ref02_Open) tyOk mixed ?_
        conv => whnf
        refine fin_here ?_
        conv => whnf
        obtain rfl := Option.some.inj h
        rfl
      · replace h := if_f c14 h
        refine Tri.run (G := gm_ref02_Open) tyOk mixed ?_
        conv => whnf
        refine Tri.seqK ?_
        refine Tri.run (G := gm_ref02_Open) tyOk mixed ?_
        conv => whnf
        refine Tri.run (G := gm_ref02_Open) tyOk mixed ?_
        conv => whnf
        refine fin_here ?_
        conv => whnf
        obtain rfl := Option.some.inj h
        rfl
noncomputable def ref04_Scan_l2 (s : Str) (a71 : Int) (a72 : (List Str)) : Option ((Int × (List Str)) ⊕ ((Int × (List Str)) ⊕ (Int × (List Str)))) :=
  if (decide (a71 < (s.length : Int))) then
    need (0 ≤ a71 ∧ a71 ≤ (s.length : Int) ∧ (s.length : Int) ≤ (s.length : Int)) <|
    (ref02_Open (cut s a71 (s.length : Int)) 2048).bind fun y83 =>
    if (!(decide (y83.2.2 = 0))) then
      some (.inr (.inl (a71, a72)))
    else
      need ((a72.length + 1) * 16 ≤ 140737488355328) <|
      some (.inl ((IntKind.i64.wrap ((s.length : Int) - (y83.2.1.length : Int))), (a72 ++ [y83.1])))
  else
    some (.inr (.inr (a71, a72)))
noncomputable def ref04_Scan (s : Str) : Option ((List Str) × Int) :=
  (loop (fun (s77 : Int × (List Str)) => ref04_Scan_l2 s s77.1 s77.2) ((0 : Int), ([] : (List Str)))).bind fun (y73 : (Int × (List Str)) ⊕ (Int × (List Str))) =>
  match y73 with
  | (.inl v75) =>
    some (v75.2, v75.1)
  | (.inr v76) =>
    some (v76.2, v76.1)
def gm_ref04_Scan : Gm := ⟨tys, [], [], []⟩
theorem ref04_Scan_walk (s : Str) (r : (List Str) × Int) (h : ref04_Scan s = some r) : PureP Try.prog 13 [.v (.string (bs s))] (fun a => a = .tup [.sl (List.map encS r.1), .v (.int .i64 r.2)]) := by
  unfold ref04_Scan at h
  refine pureW (G := gm_ref04_Scan) tyOk Try.func13 rfl (by kernel_rfl) (by simp [Try.f13]) ?_
  refine Tri.seqK ?_
  refine Tri.run (G := gm_ref04_Scan) tyOk mixed ?_
  conv => whnf
  refine Tri.seqK ?_
  refine Tri.run (G := gm_ref04_Scan) tyOk mixed ?_
  conv => whnf
  refine Tri.seqK ?_
  refine Tri.run (G := gm_ref04_Scan) tyOk mixed ?_
  conv => whnf
  refine Tri.seqK ?_
  refine Tri.block ?_
  replace h := bind_some h
  obtain ⟨y73, q74, h⟩ := h
  refine Tri.cut (fun ex S' => (∃ v75 : Int × (List Str), y73 = (.inl v75) ∧ ex = .ret ∧ Weak S' ⟨36, 0, ofRegs [(2, .row 0 ((List.map encS v75.2).length)), (3, .v (.int .i64 v75.1))], [.row 9 1 (List.map encS v75.2)]⟩) ∨ (∃ v76 : Int × (List Str), y73 = (.inr v76) ∧ ex = (.exit 0) ∧ Weak S' ⟨36, 0, ofRegs [(4, .row 0 ((List.map encS v76.2).length)), (5, .v (.int .i64 v76.1))], [.row 9 1 (List.map encS v76.2)]⟩)) ?_ ?_
  · refine Tri.loopF (fun (s77 : Int × (List Str)) => (⟨36, 0, ofRegs [(0, .v (.string (bs s))), (4, .row 0 ((List.map encS s77.2).length)), (5, .v (.int .i64 s77.1))], [.row 9 1 (List.map encS s77.2)]⟩ : St)) q74 (Weak.trans (weak_nil 4 9 1 rfl) (weak_fin _ rfl rfl rfl (.cons (.same rfl) (LeH.rest)) (.cons (.one (.same rfl)) (.cons (.one (.same (show (.row 0 0 : AV) = (.row 0 ((List.map encS []).length) : AV) from congrArg (AV.row 0) (by simp)))) (.cons (.one (.same rfl)) (.nil)))) rfl rfl)) ?_
    rintro ⟨a71, a72⟩ v78 hv r79
    have hv : ref04_Scan_l2 s a71 a72 = some v78 := hv
    unfold ref04_Scan_l2 at hv
    dsimp only
    refine Tri.seqK ?_
    refine Tri.seqK ?_
    refine Tri.run (G := gm_ref04_Scan) tyOk mixed ?_
    conv => whnf
    refine ⟨⟨(s.length : Int), rfl, ?_⟩⟩
    conv => whnf
    refine Tri.cond rfl (fun c81 => ?_) (fun c81 => ?_)
    · replace hv := if_t c81 hv
      refine Tri.run (G := gm_ref04_Scan) tyOk mixed ?_
      conv => whnf
      refine Tri.block ?_
      refine Tri.seqK ?_
      refine Tri.run (G := gm_ref04_Scan) tyOk mixed ?_
      conv => whnf
      replace hv := need_some hv
      obtain ⟨p82, hv⟩ := hv
      refine ⟨p82, ?_⟩
      conv => whnf
      refine ⟨⟨bs (cut s a71 (s.length : Int)), bs_cut _ _ _, ?_⟩⟩
      conv => whnf
      replace hv := bind_some hv
      obtain ⟨y83, q84, hv⟩ := hv
      refine PureP.mono (ref02_Open_walk (cut s a71 (s.length : Int)) 2048 y83 q84) ?_
      rintro _ rfl
      conv => whnf
      refine Tri.seqK ?_
      refine Tri.seqK ?_
      refine Tri.run (G := gm_ref04_Scan) tyOk mixed ?_
      conv => whnf
      refine Tri.cond rfl (fun c86 => ?_) (fun c86 => ?_)
      · replace hv := if_t c86 hv
        refine Tri.seqK ?_
        refine Tri.run (G := gm_ref04_Scan) tyOk mixed ?_
        conv => whnf
        refine Tri.run (G := gm_ref04_Scan) tyOk mixed ?_
        conv => whnf
        obtain rfl := Option.some.inj hv
        obtain rfl := r79 _ rfl
        exact Or.inl ⟨_, rfl, rfl, weak_fin _ rfl rfl rfl (.cons (.same rfl) (LeH.rest)) (.cons (.one (.same rfl)) (.cons (.one (.same rfl)) (.nil))) rfl rfl⟩
      · replace hv := if_f c86 hv
        refine Tri.run (G := gm_ref04_Scan) tyOk mixed ?_
        conv => whnf
        refine Tri.seqK ?_
        refine Tri.run (G := gm_ref04_Scan) tyOk mixed ?_
        conv => whnf
        refine ⟨⟨List.map encS [y83.1], rfl, ?_⟩⟩
        conv => whnf
        refine ⟨rfl, ?_⟩
        conv => whnf
        refine ⟨rfl, ?_⟩
        conv => whnf
        replace hv := need_some hv
        obtain ⟨p87, hv⟩ := hv
        refine ⟨by simp only [List.length_map]; exact p87, ?_⟩
        conv => whnf
        refine ⟨⟨List.map encS (a72 ++ [y83.1]), map_app encS _ _ rfl rfl, ?_⟩⟩
        conv => whnf
        refine Tri.run (G := gm_ref04_Scan) tyOk mixed ?_
        conv => whnf
        refine ⟨⟨(s.length : Int), rfl, ?_⟩⟩
        conv => whnf
        refine ⟨⟨(y83.2.1.length : Int), rfl, ?_⟩⟩
        conv => whnf
        obtain rfl := Option.some.inj hv
        exact ⟨_, rfl, weak_fin _ rfl rfl rfl (.cons (.same rfl) (LeH.rest)) (.cons (.one (.same rfl)) (.cons (.one (.same rfl)) (.cons (.one (.same rfl)) (.nil)))) rfl rfl⟩
    · replace hv := if_f c81 hv
      refine Tri.run (G := gm_ref04_Scan) tyOk mixed ?_
      conv => whnf
      obtain rfl := Option.some.inj hv
      obtain rfl := r79 _ rfl
      exact Or.inr (⟨_, rfl, rfl, weak_fin _ rfl rfl rfl (.cons (.same rfl) (LeH.rest)) (.cons (.one (.same rfl)) (.cons (.one (.same rfl)) (.nil))) rfl rfl⟩)
  · rintro ex S' (⟨v75, rfl, rfl, w88⟩ | ⟨v76, rfl, rfl, w88⟩)
    · dsimp only at h
      conv => whnf
      refine fin_pre w88 ?_
      conv => whnf
      refine ⟨rfl, ?_⟩
      conv => whnf
      obtain rfl := Option.some.inj h
      rfl
    · dsimp only at h
      conv => whnf
      refine Tri.weak w88 ?_
      refine Tri.seqK ?_
      refine Tri.run (G := gm_ref04_Scan) tyOk mixed ?_
      conv => whnf
      refine Tri.run (G := gm_ref04_Scan) tyOk mixed ?_
      conv => whnf
      refine fin_here ?_
      conv => whnf
      refine ⟨rfl, ?_⟩
      conv => whnf
      obtain rfl := Option.some.inj h
      rfl
noncomputable def ref01_Same_l2 (a : (List Str)) (b : (List Str)) (a114 : Int) : Option ((Int) ⊕ ((Unit) ⊕ (Unit))) :=
  if (decide (a114 < (a.length : Int))) then
    (ix a a114).bind fun x137 =>
    (ix b a114).bind fun x139 =>
    if (!decide (x137 = x139)) then
      some (.inr (.inl ()))
    else
      some (.inl (IntKind.i64.wrap (a114 + 1)))
  else
    some (.inr (.inr ()))
noncomputable def ref01_Same (a : (List Str)) (b : (List Str)) : Option (Bool) :=
  if (!(decide ((a.length : Int) = (b.length : Int)))) then
    some false
  else
    (loop (fun (s119 : Int) => ref01_Same_l2 a b s119) (0 : Int)).bind fun (y115 : (Unit) ⊕ (Unit)) =>
    match y115 with
    | (.inl v117) =>
      some false
    | (.inr v118) =>
      some true
def gm_ref01_Same : Gm := ⟨tys, [], [], []⟩
theorem ref01_Same_walk (a : (List Str)) (b : (List Str)) (r : Bool) (h : ref01_Same a b = some r) : PureP Try.prog 14 [.sl (List.map encS a), .sl (List.map encS b)] (fun a => a = .v (.bool r)) := by
  unfold ref01_Same at h
  refine pureW (G := gm_ref01_Same) tyOk Try.func14 rfl (by kernel_rfl) (by simp [Try.f14]) ?_
  refine Tri.seqK ?_
  refine Tri.run (G := gm_ref01_Same) tyOk mixed ?_
  conv => whnf
  refine Tri.seqK ?_
  refine Tri.seqK ?_
  refine Tri.run (G := gm_ref01_Same) tyOk mixed ?_
  conv => whnf
  refine ⟨⟨(a.length : Int), (len_map _ _).symm, ?_⟩⟩
  conv => whnf
  refine ⟨⟨(b.length : Int), (len_map _ _).symm, ?_⟩⟩
  conv => whnf
  refine Tri.cond rfl (fun c2 => ?_) (fun c2 => ?_)
  · replace h := if_t c2 h
    refine Tri.seqK ?_
    refine Tri.run (G := gm_ref01_Same) tyOk mixed ?_
    conv => whnf
    refine Tri.run (G := gm_ref01_Same) tyOk mixed ?_
    conv => whnf
    refine fin_here ?_
    conv => whnf
    obtain rfl := Option.some.inj h
    rfl
  · replace h := if_f c2 h
    refine Tri.run (G := gm_ref01_Same) tyOk mixed ?_
    conv => whnf
    refine Tri.seqK ?_
    refine Tri.seqK ?_
    refine Tri.run (G := gm_ref01_Same) tyOk mixed ?_
    conv => whnf
    refine Tri.block ?_
    replace h := bind_some h
    obtain ⟨y115, q116, h⟩ := h
    refine Tri.cut (fun ex S' => (∃ v117 : Unit, y115 = (.inl v117) ∧ ex = .ret ∧ Weak S' ⟨26, 0, ofRegs [(4, .v (.bool false))], []⟩) ∨ (∃ v118 : Unit, y115 = (.inr v118) ∧ ex = (.exit 0) ∧ Weak S' ⟨26, 0, ofRegs [], []⟩)) ?_ ?_
    · refine Tri.loopF (fun (s119 : Int) => (⟨26, 0, ofRegs [(0, .sl (List.map encS a)), (1, .sl (List.map encS b)), (5, .v (.int .i64 s119))], []⟩ : St)) q116 (weak_fin _ rfl rfl rfl (LeH.rest) (.cons (.one (.same rfl)) (.cons (.one (.same rfl)) (.cons (.one (.same rfl)) (.nil)))) rfl rfl) ?_
      rintro a114 v120 hv r121
      have hv : ref01_Same_l2 a b a114 = some v120 := hv
      unfold ref01_Same_l2 at hv
      refine Tri.seqK ?_
      refine Tri.seqK ?_
      refine Tri.run (G := gm_ref01_Same) tyOk mixed ?_
      conv => whnf
      refine ⟨⟨(a.length : Int), (len_map _ _).symm, ?_⟩⟩
      conv => whnf
      refine Tri.cond rfl (fun c123 => ?_) (fun c123 => ?_)
      · replace hv := if_t c123 hv
        refine Tri.run (G := gm_ref01_Same) tyOk mixed ?_
        conv => whnf
        refine Tri.seqK ?_
        refine Tri.block ?_
        refine Tri.seqK ?_
        refine Tri.run (G := gm_ref01_Same) tyOk mixed ?_
        conv => whnf
        refine Draw.one 9 (.take 0 (.take 1 (.take 2 (.take 3 (.take 4 (.take 5 (.take 6 (.take 7 (.take 8 (.fin)))))))))) [] (by kernel_rfl) ?_
        conv => whnf
        replace hv := bind_some hv
        obtain ⟨x137, q138, hv⟩ := hv
        refine ⟨(ix_some q138).1, ?_⟩
        conv => whnf
        refine ⟨⟨_, map_get encS (ix_some q138).2, ?_⟩⟩
        conv => whnf
        refine ⟨rfl, ?_⟩
        conv => whnf
        replace hv := bind_some hv
        obtain ⟨x139, q140, hv⟩ := hv
        refine ⟨(ix_some q140).1, ?_⟩
        conv => whnf
        refine ⟨⟨_, map_get encS (ix_some q140).2, ?_⟩⟩
        conv => whnf
        refine ⟨rfl, ?_⟩
        conv => whnf
        refine ⟨⟨(!decide (x137 = x139)), bs_ne _ _, ?_⟩⟩
        conv => whnf
        refine Tri.cond rfl (fun c141 => ?_) (fun c141 => ?_)
        · replace hv := if_t c141 hv
          refine Tri.seqK ?_
          refine Tri.run (G := gm_ref01_Same) tyOk mixed ?_
          conv => whnf
          refine Tri.run (G := gm_ref01_Same) tyOk mixed ?_
          conv => whnf
          obtain rfl := Option.some.inj hv
          obtain rfl := r121 _ rfl
          exact Or.inl ⟨_, rfl, rfl, weak_fin _ rfl rfl rfl (LeH.rest) (.cons (.one (.same rfl)) (.nil)) rfl rfl⟩
        · replace hv := if_f c141 hv
          refine Tri.run (G := gm_ref01_Same) tyOk mixed ?_
          conv => whnf
          refine Tri.run (G := gm_ref01_Same) tyOk mixed ?_
          conv => whnf
          obtain rfl := Option.some.inj hv
          exact ⟨_, rfl, weak_fin _ rfl rfl rfl (LeH.rest) (.cons (.one (.same rfl)) (.cons (.one (.same rfl)) (.cons (.one (.same rfl)) (.nil)))) rfl rfl⟩
      · replace hv := if_f c123 hv
        refine Tri.run (G := gm_ref01_Same) tyOk mixed ?_
        conv => whnf
        obtain rfl := Option.some.inj hv
        obtain rfl := r121 _ rfl
        exact Or.inr (⟨_, rfl, rfl, weak_fin _ rfl rfl rfl (LeH.rest) (.nil) rfl rfl⟩)
    · rintro ex S' (⟨v117, rfl, rfl, w142⟩ | ⟨v118, rfl, rfl, w142⟩)
      · dsimp only at h
        conv => whnf
        refine fin_pre w142 ?_
        conv => whnf
        obtain rfl := Option.some.inj h
        rfl
      · dsimp only at h
        conv => whnf
        refine Tri.weak w142 ?_
        refine Tri.seqK ?_
        refine Tri.run (G := gm_ref01_Same) tyOk mixed ?_
        conv => whnf
        refine Tri.run (G := gm_ref01_Same) tyOk mixed ?_
        conv => whnf
        refine fin_here ?_
        conv => whnf
        obtain rfl := Option.some.inj h
        rfl
noncomputable def ref01_Num_l2 (a29 : Int) (a30 : Str) : Option ((Int × Str) ⊕ (Str)) :=
  if (decide (a29 > 0)) then
    need ((List.map u8 [(IntKind.u8.wrap (48 + (IntKind.u8.wrap (Int.tmod a29 10))))]).length + a30.length ≤ 9223372036854775807) <|
    some (.inl ((IntKind.u64.wrap (Int.tdiv a29 10)), ((List.map u8 [(IntKind.u8.wrap (48 + (IntKind.u8.wrap (Int.tmod a29 10))))]) ++ a30)))
  else
    some (.inr a30)
noncomputable def ref01_Num (v : Int) : Option (Str) :=
  need ((List.map u8 [(IntKind.u8.wrap (48 + (IntKind.u8.wrap (Int.tmod v 10))))]).length + ([59] : Str).length ≤ 9223372036854775807) <|
  (loop (fun (s33 : Int × Str) => ref01_Num_l2 s33.1 s33.2) ((IntKind.u64.wrap (Int.tdiv v 10)), ((List.map u8 [(IntKind.u8.wrap (48 + (IntKind.u8.wrap (Int.tmod v 10))))]) ++ [59]))).bind fun (y31 : Str) =>
  some y31
def gm_ref01_Num : Gm := ⟨tys, [], [], []⟩
theorem ref01_Num_walk (v : Int) (r : Str) (h : ref01_Num v = some r) : PureP Try.prog 38 [.v (.int .u64 v)] (fun a => a = .v (.string (bs r))) := by
  unfold ref01_Num at h
  refine pureW (G := gm_ref01_Num) tyOk Try.func38 rfl (by kernel_rfl) (by simp [Try.f38]) ?_
  refine Tri.seqK ?_
  refine Tri.run (G := gm_ref01_Num) tyOk mixed ?_
  conv => whnf
  refine Tri.seqK ?_
  refine Tri.run (G := gm_ref01_Num) tyOk mixed ?_
  conv => whnf
  refine ⟨by decide, ?_⟩
  conv => whnf
  refine ⟨⟨(IntKind.u8.wrap (Int.tmod v 10)), rfl, ?_⟩⟩
  conv => whnf
  refine ⟨⟨List.map (encI .u8) [(IntKind.u8.wrap (48 + (IntKind.u8.wrap (Int.tmod v 10))))], rfl, ?_⟩⟩
  conv => whnf
  refine ⟨rfl, ?_⟩
  conv => whnf
  refine ⟨⟨[(IntKind.u8.wrap (48 + (IntKind.u8.wrap (Int.tmod v 10))))], rfl, ?_⟩⟩
  conv => whnf
  refine ⟨⟨bs (List.map u8 [(IntKind.u8.wrap (48 + (IntKind.u8.wrap (Int.tmod v 10))))]), ofInts_eq _, ?_⟩⟩
  conv => whnf
  replace h := need_some h
  obtain ⟨p1, h⟩ := h
  refine ⟨p1, ?_⟩
  conv => whnf
  refine ⟨⟨bs ((List.map u8 [(IntKind.u8.wrap (48 + (IntKind.u8.wrap (Int.tmod v 10))))]) ++ [59]), bs_append _ _, ?_⟩⟩
  conv => whnf
  refine Tri.seqK ?_
  refine Tri.run (G := gm_ref01_Num) tyOk mixed ?_
  conv => whnf
  refine ⟨by decide, ?_⟩
  conv => whnf
  refine Tri.seqK ?_
  refine Tri.block ?_
  replace h := bind_some h
  obtain ⟨y31, q32, h⟩ := h
  refine Tri.cut (fun ex S' => ex = (.exit 0) ∧ Weak S' ⟨26, 0, ofRegs [(3, .v (.string (bs y31)))], []⟩) ?_ ?_
  · refine Tri.loopF (fun (s33 : Int × Str) => (⟨26, 0, ofRegs [(0, .v (.int .u64 s33.1)), (3, .v (.string (bs s33.2)))], []⟩ : St)) q32 (weak_fin _ rfl rfl rfl (LeH.rest) (.cons (.one (.same rfl)) (.cons (.one (.same rfl)) (.nil))) rfl rfl) ?_
    rintro ⟨a29, a30⟩ v34 hv r35
    have hv : ref01_Num_l2 a29 a30 = some v34 := hv
    unfold ref01_Num_l2 at hv
    dsimp only
    refine Tri.seqK ?_
    refine Tri.seqK ?_
    refine Tri.run (G := gm_ref01_Num) tyOk mixed ?_
    conv => whnf
    refine Tri.cond rfl (fun c37 => ?_) (fun c37 => ?_)
    · replace hv := if_t c37 hv
      refine Tri.run (G := gm_ref01_Num) tyOk mixed ?_
      conv => whnf
      refine Tri.block ?_
      refine Tri.seqK ?_
      refine Tri.run (G := gm_ref01_Num) tyOk mixed ?_
      conv => whnf
      refine ⟨by decide, ?_⟩
      conv => whnf
      refine ⟨⟨(IntKind.u8.wrap (Int.tmod a29 10)), rfl, ?_⟩⟩
      conv => whnf
      refine ⟨⟨List.map (encI .u8) [(IntKind.u8.wrap (48 + (IntKind.u8.wrap (Int.tmod a29 10))))], rfl, ?_⟩⟩
      conv => whnf
      refine ⟨rfl, ?_⟩
      conv => whnf
      refine ⟨⟨[(IntKind.u8.wrap (48 + (IntKind.u8.wrap (Int.tmod a29 10))))], rfl, ?_⟩⟩
      conv => whnf
      refine ⟨⟨bs (List.map u8 [(IntKind.u8.wrap (48 + (IntKind.u8.wrap (Int.tmod a29 10))))]), ofInts_eq _, ?_⟩⟩
      conv => whnf
      replace hv := need_some hv
      obtain ⟨p38, hv⟩ := hv
      refine ⟨p38, ?_⟩
      conv => whnf
      refine ⟨⟨bs ((List.map u8 [(IntKind.u8.wrap (48 + (IntKind.u8.wrap (Int.tmod a29 10))))]) ++ a30), bs_append _ _, ?_⟩⟩
      conv => whnf
      refine Tri.run (G := gm_ref01_Num) tyOk mixed ?_
      conv => whnf
      refine ⟨by decide, ?_⟩
      conv => whnf
      obtain rfl := Option.some.inj hv
      exact ⟨_, rfl, weak_fin _ rfl rfl rfl (LeH.rest) (.cons (.one (.same rfl)) (.cons (.one (.same rfl)) (.nil))) rfl rfl⟩
    · replace hv := if_f c37 hv
      refine Tri.run (G := gm_ref01_Num) tyOk mixed ?_
      conv => whnf
      obtain rfl := Option.some.inj hv
      obtain rfl := r35 _ rfl
      exact ⟨rfl, weak_fin _ rfl rfl rfl (LeH.rest) (.cons (.one (.same rfl)) (.nil)) rfl rfl⟩
  · rintro ex S' ⟨rfl, w39⟩
    conv => whnf
    refine Tri.weak w39 ?_
    refine Tri.seqK ?_
    refine Tri.run (G := gm_ref01_Num) tyOk mixed ?_
    conv => whnf
    refine Tri.run (G := gm_ref01_Num) tyOk mixed ?_
    conv => whnf
    refine fin_here ?_
    conv => whnf
    obtain rfl := Option.some.inj h
    rfl
noncomputable def ref04_Name (seg : Int) : Option (Str) :=
  if ((decide (seg < 1)) || (decide (seg > 1000000))) then
    some ([] : Str)
  else
    (ref01_Num (IntKind.u64.wrap seg)).bind fun y13 =>
    need (0 ≤ (0 : Int) ∧ 0 ≤ (IntKind.i64.wrap ((y13.length : Int) - 1)) ∧ (IntKind.i64.wrap ((y13.length : Int) - 1)) ≤ (y13.length : Int)) <|
    need (([119] : Str).length + (cut y13 0 (IntKind.i64.wrap ((y13.length : Int) - 1))).length ≤ 9223372036854775807) <|
    some ([119] ++ (cut y13 0 (IntKind.i64.wrap ((y13.length : Int) - 1))))
def gm_ref04_Name : Gm := ⟨tys, [], [], []⟩
theorem ref04_Name_walk (seg : Int) (r : Str) (h : ref04_Name seg = some r) : PureP Try.prog 16 [.v (.int .i64 seg)] (fun a => a = .v (.string (bs r))) := by
  unfold ref04_Name at h
  refine pureW (G := gm_ref04_Name) tyOk Try.func16 rfl (by kernel_rfl) (by simp [Try.f16]) ?_
  refine Tri.seqK ?_
  refine Tri.run (G := gm_ref04_Name) tyOk mixed ?_
  conv => whnf
  refine Tri.seqK ?_
  refine Tri.seqK ?_
  refine Tri.cut (fun ex S' => ex = .normal ∧ Weak S' ⟨19, 0, ofRegs [(0, .v (.int .i64 seg)), (9, .v (.bool ((decide (seg < 1)) || (decide (seg > 1000000)))))], []⟩) ?_ ?_
  · refine Tri.run (G := gm_ref04_Name) tyOk mixed ?_
    conv => whnf
    refine cond_mk (fun c10 => ?_) (fun c10 => ?_)
    · replace c10 : (decide (seg < 1)) = true := c10
      conv => whnf
      exact ⟨rfl, weak_fin _ rfl rfl rfl (LeH.rest) (.cons (.one (.same rfl)) (.cons (.one (.same (show (.v (.bool true) : AV) = (.v (.bool ((decide (seg < 1)) || (decide (seg > 1000000)))) : AV) from by first | (simp [c10]; done) | simp only [c10, Bool.or_true, Bool.true_or, Bool.false_or, Bool.or_false, Bool.and_true, Bool.true_and, Bool.and_false, Bool.false_and, Bool.not_true, Bool.not_false, if_true, if_false, Bool.false_eq_true]))) (.nil))) rfl rfl⟩
    · replace c10 : (decide (seg < 1)) = false := c10
      conv => whnf
      exact ⟨rfl, weak_fin _ rfl rfl rfl (LeH.rest) (.cons (.one (.same rfl)) (.cons (.one (.same (show (.v (.bool (decide (seg > 1000000))) : AV) = (.v (.bool ((decide (seg < 1)) || (decide (seg > 1000000)))) : AV) from by first | (simp [c10]; done) | simp only [c10, Bool.or_true, Bool.true_or, Bool.false_or, Bool.or_false, Bool.and_true, Bool.true_and, Bool.and_false, Bool.false_and, Bool.not_true, Bool.not_false, if_true, if_false, Bool.false_eq_true]))) (.nil))) rfl rfl⟩
  · rintro ex S' ⟨rfl, w11⟩
    conv => whnf
    refine Tri.weak w11 ?_
    refine Tri.cond rfl (fun c12 => ?_) (fun c12 => ?_)
    · replace h := if_t c12 h
      refine Tri.seqK ?_
      refine Tri.run (G := gm_ref04_Name) tyOk mixed ?_
      conv => whnf
      refine Tri.run (G := gm_ref04_Name) tyOk mixed ?_
      conv => whnf
      refine fin_here ?_
      conv => whnf
      obtain rfl := Option.some.inj h
      rfl
    · replace h := if_f c12 h
      refine Tri.run (G := gm_ref04_Name) tyOk mixed ?_
      conv => whnf
      refine Tri.seqK ?_
      refine Tri.run (G := gm_ref04_Name) tyOk mixed ?_
      conv => whnf
      refine ⟨⟨(IntKind.u64.wrap seg), rfl, ?_⟩⟩
      conv => whnf
      replace h := bind_some h
      obtain ⟨y13, q14, h⟩ := h
      refine PureP.mono (ref01_Num_walk (IntKind.u64.wrap seg) y13 q14) ?_
      rintro _ rfl
      conv => whnf
      refine Tri.seqK ?_
      refine Tri.run (G := gm_ref04_Name) tyOk mixed ?_
      conv => whnf
      refine ⟨⟨(y13.length : Int), rfl, ?_⟩⟩
      conv => whnf
      replace h := need_some h
      obtain ⟨p15, h⟩ := h
      refine ⟨p15, ?_⟩
      conv => whnf
      refine ⟨⟨bs (cut y13 0 (IntKind.i64.wrap ((y13.length : Int) - 1))), bs_cut _ _ _, ?_⟩⟩
      conv => whnf
      replace h := need_some h
      obtain ⟨p16, h⟩ := h
      refine ⟨p16, ?_⟩
      conv => whnf
      refine ⟨⟨bs ([119] ++ (cut y13 0 (IntKind.i64.wrap ((y13.length : Int) - 1)))), bs_append _ _, ?_⟩⟩
      conv => whnf
      refine Tri.run (G := gm_ref04_Name) tyOk mixed ?_
      conv => whnf
      refine fin_here ?_
      conv => whnf
      obtain rfl := Option.some.inj h
      rfl
noncomputable def law04_WalScans (seg : Int) (s : Str) : Option (Bool) :=
  law04_shown.bind fun y1 =>
  (wal_Scan s).bind fun y3 =>
  (ref04_Scan s).bind fun y5 =>
  (ref01_Same y3.1 y5.1).bind fun y7 =>
  if y1 then
    (wal_Name seg).bind fun y10 =>
    (ref04_Name seg).bind fun y12 =>
    if (decide (y10 = y12)) then
      if y7 then
        some (decide (y3.2 = y5.2))
      else
        some false
    else
      some false
  else
    some false
def gm_law04_WalScans : Gm := ⟨tys, [], [], []⟩
theorem law04_WalScans_walk (seg : Int) (s : Str) (r : Bool) (h : law04_WalScans seg s = some r) : PureP Try.prog 3 [.v (.int .i64 seg), .v (.string (bs s))] (fun a => a = .v (.bool r)) := by
  unfold law04_WalScans at h
  refine pureW (G := gm_law04_WalScans) tyOk Try.func3 rfl (by kernel_rfl) (by simp [Try.f3]) ?_
  refine Tri.seqK ?_
  refine Tri.run (G := gm_law04_WalScans) tyOk mixed ?_
  conv => whnf
  refine Tri.seqK ?_
  refine Tri.run (G := gm_law04_WalScans) tyOk mixed ?_
  conv => whnf
  replace h := bind_some h
  obtain ⟨y1, q2, h⟩ := h
  refine PureP.mono (law04_shown_walk y1 q2) ?_
  rintro _ rfl
  conv => whnf
  refine Tri.seqK ?_
  refine Tri.run (G := gm_law04_WalScans) tyOk mixed ?_
  conv => whnf
  replace h := bind_some h
  obtain ⟨y3, q4, h⟩ := h
  refine PureP.mono (wal_Scan_walk s y3 q4) ?_
  rintro _ rfl
  conv => whnf
  refine Tri.seqK ?_
  refine Tri.run (G := gm_law04_WalScans) tyOk mixed ?_
  conv => whnf
  replace h := bind_some h
  obtain ⟨y5, q6, h⟩ := h
  refine PureP.mono (ref04_Scan_walk s y5 q6) ?_
  rintro _ rfl
  conv => whnf
  refine Tri.seqK ?_
  refine Tri.run (G := gm_law04_WalScans) tyOk mixed ?_
  conv => whnf
  replace h := bind_some h
  obtain ⟨y7, q8, h⟩ := h
  refine PureP.mono (ref01_Same_walk y3.1 y5.1 y7 q8) ?_
  rintro _ rfl
  conv => whnf
  refine Tri.seqK ?_
  refine Tri.run (G := gm_law04_WalScans) tyOk mixed ?_
  conv => whnf
  refine cond_mk (fun c9 => ?_) (fun c9 => ?_)
  · replace h := if_t c9 h
    conv => whnf
    replace h := bind_some h
    obtain ⟨y10, q11, h⟩ := h
    refine PureP.mono (wal_Name_walk seg y10 q11) ?_
    rintro _ rfl
    conv => whnf
    replace h := bind_some h
    obtain ⟨y12, q13, h⟩ := h
    refine PureP.mono (ref04_Name_walk seg y12 q13) ?_
    rintro _ rfl
    conv => whnf
    refine ⟨⟨(decide (y10 = y12)), bs_eq _ _, ?_⟩⟩
    conv => whnf
    refine cond_mk (fun c14 => ?_) (fun c14 => ?_)
    · replace h := if_t c14 h
      conv => whnf
      refine cond_mk (fun c15 => ?_) (fun c15 => ?_)
      · replace h := if_t c15 h
        conv => whnf
        refine Tri.run (G := gm_law04_WalScans) tyOk mixed ?_
        conv => whnf
        refine fin_here ?_
        conv => whnf
        obtain rfl := Option.some.inj h
        rfl
      · replace h := if_f c15 h
        conv => whnf
        refine Tri.run (G := gm_law04_WalScans) tyOk mixed ?_
        conv => whnf
        refine fin_here ?_
        conv => whnf
        obtain rfl := Option.some.inj h
        rfl
    · replace h := if_f c14 h
      conv => whnf
      refine Tri.run (G := gm_law04_WalScans) tyOk mixed ?_
      conv => whnf
      refine fin_here ?_
      conv => whnf
      obtain rfl := Option.some.inj h
      rfl
  · replace h := if_f c9 h
    conv => whnf
    refine Tri.run (G := gm_law04_WalScans) tyOk mixed ?_
    conv => whnf
    refine fin_here ?_
    conv => whnf
    obtain rfl := Option.some.inj h
    rfl
noncomputable def ref03_at_l2 (d : Disk) (name : Str) (a52 : Int) : Option ((Int) ⊕ ((Int) ⊕ (Unit))) :=
  if (decide (a52 < (d.Files.length : Int))) then
    (ix d.Files a52).bind fun x65 =>
    if (decide (x65.Name = name)) then
      some (.inr (.inl a52))
    else
      some (.inl (IntKind.i64.wrap (a52 + 1)))
  else
    some (.inr (.inr ()))
noncomputable def ref03_at (d : Disk) (name : Str) : Option (Int) :=
  (loop (fun (s57 : Int) => ref03_at_l2 d name s57) (0 : Int)).bind fun (y53 : (Int) ⊕ (Unit)) =>
  match y53 with
  | (.inl v55) =>
    some v55
  | (.inr v56) =>
    some ((-1) : Int)
def gm_ref03_at : Gm := ⟨tys, [], [], []⟩
theorem ref03_at_walk (d : Disk) (name : Str) (r : Int) (h : ref03_at d name = some r) : PureP Try.prog 53 [.agg [.sl (List.map encFile d.Files), .v (.int .i64 d.Room), .v (.int .i64 d.Fuse), .v (.bool d.Off)], .v (.string (bs name))] (fun a => a = .v (.int .i64 r)) := by
  unfold ref03_at at h
  refine pureW (G := gm_ref03_at) tyOk Try.func53 rfl (by kernel_rfl) (by simp [Try.f53]) ?_
  refine Tri.seqK ?_
  refine Tri.run (G := gm_ref03_at) tyOk mixed ?_
  conv => whnf
  refine Tri.seqK ?_
  refine Tri.seqK ?_
  refine Tri.run (G := gm_ref03_at) tyOk mixed ?_
  conv => whnf
  refine Tri.block ?_
  replace h := bind_some h
  obtain ⟨y53, q54, h⟩ := h
  refine Tri.cut (fun ex S' => (∃ v55 : Int, y53 = (.inl v55) ∧ ex = .ret ∧ Weak S' ⟨22, 0, ofRegs [(4, .v (.int .i64 v55))], []⟩) ∨ (∃ v56 : Unit, y53 = (.inr v56) ∧ ex = (.exit 0) ∧ Weak S' ⟨22, 0, ofRegs [], []⟩)) ?_ ?_
  · refine Tri.loopF (fun (s57 : Int) => (⟨22, 0, ofRegs [(1, .v (.string (bs name))), (2, .ptr 0 0), (5, .v (.int .i64 s57))], [.var 31 [.sl (List.map encFile d.Files), .v (.int .i64 d.Room), .v (.int .i64 d.Fuse), .v (.bool d.Off)]]⟩ : St)) q54 (weak_fin _ rfl rfl rfl (.cons (.same rfl) (LeH.rest)) (.cons (.one (.same rfl)) (.cons (.one (.same rfl)) (.cons (.one (.same rfl)) (.nil)))) rfl rfl) ?_
    rintro a52 v58 hv r59
    have hv : ref03_at_l2 d name a52 = some v58 := hv
    unfold ref03_at_l2 at hv
    refine Tri.seqK ?_
    refine Tri.seqK ?_
    refine Tri.run (G := gm_ref03_at) tyOk mixed ?_
    conv => whnf
    refine ⟨⟨(d.Files.length : Int), (len_map _ _).symm, ?_⟩⟩
    conv => whnf
    refine Tri.cond rfl (fun c61 => ?_) (fun c61 => ?_)
    · replace hv := if_t c61 hv
      refine Tri.run (G := gm_ref03_at) tyOk mixed ?_
      conv => whnf
      refine Tri.seqK ?_
      refine Tri.block ?_
      refine Tri.seqK ?_
      refine Tri.run (G := gm_ref03_at) tyOk mixed ?_
      conv => whnf
      replace hv := bind_some hv
      obtain ⟨x65, q66, hv⟩ := hv
      refine ⟨(ix_some q66).1, ?_⟩
      conv => whnf
      refine ⟨⟨_, map_get encFile (ix_some q66).2, ?_⟩⟩
      conv => whnf
      refine ⟨rfl, ?_⟩
      conv => whnf
      refine ⟨⟨(decide (x65.Name = name)), bs_eq _ _, ?_⟩⟩
      conv => whnf
      refine Tri.cond rfl (fun c67 => ?_) (fun c67 => ?_)
      · replace hv := if_t c67 hv
        refine Tri.seqK ?_
        refine Tri.run (G := gm_ref03_at) tyOk mixed ?_
        conv => whnf
        refine Tri.run (G := gm_ref03_at) tyOk mixed ?_
        conv => whnf
        obtain rfl := Option.some.inj hv
        obtain rfl := r59 _ rfl
        exact Or.inl ⟨_, rfl, rfl, weak_fin _ rfl rfl rfl (LeH.rest) (.cons (.one (.same rfl)) (.nil)) rfl rfl⟩
      · replace hv := if_f c67 hv
        refine Tri.run (G := gm_ref03_at) tyOk mixed ?_
        conv => whnf
        refine Tri.run (G := gm_ref03_at) tyOk mixed ?_
        conv => whnf
        obtain rfl := Option.some.inj hv
        exact ⟨_, rfl, weak_fin _ rfl rfl rfl (.cons (.same rfl) (LeH.rest)) (.cons (.one (.same rfl)) (.cons (.one (.same rfl)) (.cons (.one (.same rfl)) (.nil)))) rfl rfl⟩
    · replace hv := if_f c61 hv
      refine Tri.run (G := gm_ref03_at) tyOk mixed ?_
      conv => whnf
      obtain rfl := Option.some.inj hv
      obtain rfl := r59 _ rfl
      exact Or.inr (⟨_, rfl, rfl, weak_fin _ rfl rfl rfl (LeH.rest) (.nil) rfl rfl⟩)
  · rintro ex S' (⟨v55, rfl, rfl, w68⟩ | ⟨v56, rfl, rfl, w68⟩)
    · dsimp only at h
      conv => whnf
      refine fin_pre w68 ?_
      conv => whnf
      obtain rfl := Option.some.inj h
      rfl
    · dsimp only at h
      conv => whnf
      refine Tri.weak w68 ?_
      refine Tri.seqK ?_
      refine Tri.run (G := gm_ref03_at) tyOk mixed ?_
      conv => whnf
      refine Tri.run (G := gm_ref03_at) tyOk mixed ?_
      conv => whnf
      refine fin_here ?_
      conv => whnf
      obtain rfl := Option.some.inj h
      rfl
noncomputable def ref03_Find (d : Disk) (name : Str) : Option (File × Bool) :=
  (ref03_at d name).bind fun y1 =>
  if (decide (y1 < 0)) then
    some (({ Name := [], Safe := [], Wait := [] } : File), false)
  else
    (ix d.Files y1).bind fun x5 =>
    some (x5, true)
def gm_ref03_Find : Gm := ⟨tys, [], [], []⟩
theorem ref03_Find_walk (d : Disk) (name : Str) (r : File × Bool) (h : ref03_Find d name = some r) : PureP Try.prog 32 [.agg [.sl (List.map encFile d.Files), .v (.int .i64 d.Room), .v (.int .i64 d.Fuse), .v (.bool d.Off)], .v (.string (bs name))] (fun a => a = .tup [.agg [.v (.string (bs r.1.Name)), .v (.string (bs r.1.Safe)), .v (.string (bs r.1.Wait))], .v (.bool r.2)]) := by
  unfold ref03_Find at h
  refine pureW (G := gm_ref03_Find) tyOk Try.func32 rfl (by kernel_rfl) (by simp [Try.f32]) ?_
  refine Tri.seqK ?_
  refine Tri.run (G := gm_ref03_Find) tyOk mixed ?_
  conv => whnf
  refine Tri.seqK ?_
  refine Tri.run (G := gm_ref03_Find) tyOk mixed ?_
  conv => whnf
  replace h := bind_some h
  obtain ⟨y1, q2, h⟩ := h
  refine PureP.mono (ref03_at_walk d name y1 q2) ?_
  rintro _ rfl
  conv => whnf
  refine Tri.seqK ?_
  refine Tri.seqK ?_
  refine Tri.run (G := gm_ref03_Find) tyOk mixed ?_
  conv => whnf
  refine Tri.cond rfl (fun c4 => ?_) (fun c4 => ?_)
  · replace h := if_t c4 h
    refine Tri.seqK ?_
    refine Tri.run (G := gm_ref03_Find) tyOk mixed ?_
    conv => whnf
    refine Tri.run (G := gm_ref03_Find) tyOk mixed ?_
    conv => whnf
    refine fin_here ?_
    conv => whnf
    obtain rfl := Option.some.inj h
    rfl
  · replace h := if_f c4 h
    refine Tri.run (G := gm_ref03_Find) tyOk mixed ?_
    conv => whnf
    refine Tri.seqK ?_
    refine Tri.run (G := gm_ref03_Find) tyOk mixed ?_
    conv => whnf
    replace h := bind_some h
    obtain ⟨x5, q6, h⟩ := h
    refine ⟨(ix_some q6).1, ?_⟩
    conv => whnf
    refine ⟨⟨_, map_get encFile (ix_some q6).2, ?_⟩⟩
    conv => whnf
    refine ⟨rfl, ?_⟩
    conv => whnf
    refine Tri.run (G := gm_ref03_Find) tyOk mixed ?_
    conv => whnf
    refine fin_here ?_
    conv => whnf
    obtain rfl := Option.some.inj h
    rfl
noncomputable def ref03_Read (d : Disk) (name : Str) : Option (Str × Int) :=
  (ref03_Find d name).bind fun y1 =>
  if (!y1.2) then
    some ([], 7)
  else
    need (y1.1.Safe.length + y1.1.Wait.length ≤ 9223372036854775807) <|
    some ((y1.1.Safe ++ y1.1.Wait), 0)
def gm_ref03_Read : Gm := ⟨tys, [], [], []⟩
theorem ref03_Read_walk (d : Disk) (name : Str) (r : Str × Int) (h : ref03_Read d name = some r) : PureP Try.prog 28 [.agg [.sl (List.map encFile d.Files), .v (.int .i64 d.Room), .v (.int .i64 d.Fuse), .v (.bool d.Off)], .v (.string (bs name))] (fun a => a = .tup [.v (.string (bs r.1)), .v (.int .i64 r.2)]) := by
  unfold ref03_Read at h
  refine pureW (G := gm_ref03_Read) tyOk Try.func28 rfl (by kernel_rfl) (by simp [Try.f28]) ?_
  refine Tri.seqK ?_
  refine Tri.run (G := gm_ref03_Read) tyOk mixed ?_
  conv => whnf
  refine Tri.seqK ?_
  refine Tri.run (G := gm_ref03_Read) tyOk mixed ?_
  conv => whnf
  replace h := bind_some h
  obtain ⟨y1, q2, h⟩ := h
  refine PureP.mono (ref03_Find_walk d name y1 q2) ?_
  rintro _ rfl
  conv => whnf
  refine Tri.seqK ?_
  refine Tri.seqK ?_
  refine Tri.run (G := gm_ref03_Read) tyOk mixed ?_
  conv => whnf
  refine Tri.cond rfl (fun c4 => ?_) (fun c4 => ?_)
  · replace h := if_t c4 h
    refine Tri.seqK ?_
    refine Tri.run (G := gm_ref03_Read) tyOk mixed ?_
    conv => whnf
    refine Tri.run (G := gm_ref03_Read) tyOk mixed ?_
    conv => whnf
    refine fin_here ?_
    conv => whnf
    obtain rfl := Option.some.inj h
    rfl
  · replace h := if_f c4 h
    refine Tri.run (G := gm_ref03_Read) tyOk mixed ?_
    conv => whnf
    refine Tri.seqK ?_
    refine Tri.run (G := gm_ref03_Read) tyOk mixed ?_
    conv => whnf
    replace h := need_some h
    obtain ⟨p5, h⟩ := h
    refine ⟨p5, ?_⟩
    conv => whnf
    refine ⟨⟨bs (y1.1.Safe ++ y1.1.Wait), bs_append _ _, ?_⟩⟩
    conv => whnf
    refine Tri.run (G := gm_ref03_Read) tyOk mixed ?_
    conv => whnf
    refine fin_here ?_
    conv => whnf
    obtain rfl := Option.some.inj h
    rfl
noncomputable def ref03_with (d : Disk) (i : Int) (f : File) : Option (Disk) :=
  need ((([] : List File).length + d.Files.length) * 48 ≤ 140737488355328) <|
  (ix (([] : List File) ++ d.Files) i).bind fun x2 =>
  some ({ Files := (List.set (([] : List File) ++ d.Files) (i).toNat f), Room := d.Room, Fuse := d.Fuse, Off := d.Off } : Disk)
def gm_ref03_with : Gm := ⟨tys, [], [], []⟩
theorem ref03_with_walk (d : Disk) (i : Int) (f : File) (r : Disk) (h : ref03_with d i f = some r) : PureP Try.prog 66 [.agg [.sl (List.map encFile d.Files), .v (.int .i64 d.Room), .v (.int .i64 d.Fuse), .v (.bool d.Off)], .v (.int .i64 i), .agg [.v (.string (bs f.Name)), .v (.string (bs f.Safe)), .v (.string (bs f.Wait))]] (fun a => a = .agg [.sl (List.map encFile r.Files), .v (.int .i64 r.Room), .v (.int .i64 r.Fuse), .v (.bool r.Off)]) := by
  unfold ref03_with at h
  refine pureW (G := gm_ref03_with) tyOk Try.func66 rfl (by kernel_rfl) (by simp [Try.f66]) ?_
  refine Tri.seqK ?_
  refine Tri.run (G := gm_ref03_with) tyOk mixed ?_
  conv => whnf
  refine Tri.seqK ?_
  refine Tri.run (G := gm_ref03_with) tyOk mixed ?_
  conv => whnf
  refine ⟨⟨List.map encFile ([] : List File), rfl, ?_⟩⟩
  conv => whnf
  refine ⟨rfl, ?_⟩
  conv => whnf
  refine ⟨map_len (f := encFile) (n := 3) (fun _ => rfl) _, ?_⟩
  conv => whnf
  replace h := need_some h
  obtain ⟨p1, h⟩ := h
  refine ⟨by simp only [List.length_map]; exact p1, ?_⟩
  conv => whnf
  refine ⟨⟨List.map encFile (([] : List File) ++ d.Files), map_app encFile _ _ rfl rfl, ?_⟩⟩
  conv => whnf
  refine Tri.seqK ?_
  refine Tri.run (G := gm_ref03_with) tyOk mixed ?_
  conv => whnf
  replace h := bind_some h
  obtain ⟨x2, q3, h⟩ := h
  refine ⟨⟨rfl, (ix_lt q3).1, by have := ix_lt q3; simp only [List.length_map, List.length_set, List.length_cons, List.length_nil] at *; omega⟩, ?_⟩
  conv => whnf
  refine ⟨rfl, ?_⟩
  conv => whnf
  refine ⟨⟨_, map_get encFile (ix_some q3).2, ?_⟩⟩
  conv => whnf
  refine ⟨Nat.le_of_ble_eq_true rfl, ?_⟩
  conv => whnf
  refine ⟨⟨List.map encFile (List.set (([] : List File) ++ d.Files) (i).toNat f), map_set encFile _ _ _ rfl, ?_⟩⟩
  conv => whnf
  refine Tri.seqK ?_
  refine Tri.run (G := gm_ref03_with) tyOk mixed ?_
  conv => whnf
  refine Tri.seqK ?_
  refine Tri.run (G := gm_ref03_with) tyOk mixed ?_
  conv => whnf
  refine Tri.run (G := gm_ref03_with) tyOk mixed ?_
  conv => whnf
  refine fin_here ?_
  conv => whnf
  refine ⟨by simp, ?_⟩
  conv => whnf
  obtain rfl := Option.some.inj h
  rfl
noncomputable def ref03_Sync (d : Disk) (name : Str) : Option (Disk × Int) :=
  if d.Off then
    some (d, 6)
  else
    (ref03_at d name).bind fun y3 =>
    if (decide (y3 < 0)) then
      some (d, 7)
    else
      (ix d.Files y3).bind fun x7 =>
      need (x7.Safe.length + x7.Wait.length ≤ 9223372036854775807) <|
      (ref03_with d y3 ({ Name := x7.Name, Safe := (x7.Safe ++ x7.Wait), Wait := [] } : File)).bind fun y10 =>
      some (y10, 0)
def gm_ref03_Sync : Gm := ⟨tys, [], [], []⟩
theorem ref03_Sync_walk (d : Disk) (name : Str) (r : Disk × Int) (h : ref03_Sync d name = some r) : PureP Try.prog 43 [.agg [.sl (List.map encFile d.Files), .v (.int .i64 d.Room), .v (.int .i64 d.Fuse), .v (.bool d.Off)], .v (.string (bs name))] (fun a => a = .tup [.agg [.sl (List.map encFile r.1.Files), .v (.int .i64 r.1.Room), .v (.int .i64 r.1.Fuse), .v (.bool r.1.Off)], .v (.int .i64 r.2)]) := by
  unfold ref03_Sync at h
  refine pureW (G := gm_ref03_Sync) tyOk Try.func43 rfl (by kernel_rfl) (by simp [Try.f43]) ?_
  refine Tri.seqK ?_
  refine Tri.run (G := gm_ref03_Sync) tyOk mixed ?_
  conv => whnf
  refine Tri.seqK ?_
  refine Tri.seqK ?_
  refine Tri.run (G := gm_ref03_Sync) tyOk mixed ?_
  conv => whnf
  refine Tri.cond rfl (fun c2 => ?_) (fun c2 => ?_)
  · replace h := if_t c2 h
    refine Tri.seqK ?_
    refine Tri.run (G := gm_ref03_Sync) tyOk mixed ?_
    conv => whnf
    refine Tri.run (G := gm_ref03_Sync) tyOk mixed ?_
    conv => whnf
    refine fin_here ?_
    conv => whnf
    obtain rfl := Option.some.inj h
    rfl
  · replace h := if_f c2 h
    refine Tri.run (G := gm_ref03_Sync) tyOk mixed ?_
    conv => whnf
    refine Tri.seqK ?_
    refine Tri.run (G := gm_ref03_Sync) tyOk mixed ?_
    conv => whnf
    replace h := bind_some h
    obtain ⟨y3, q4, h⟩ := h
    refine PureP.mono (ref03_at_walk d name y3 q4) ?_
    rintro _ rfl
    conv => whnf
    refine Tri.seqK ?_
    refine Tri.seqK ?_
    refine Tri.run (G := gm_ref03_Sync) tyOk mixed ?_
    conv => whnf
    refine Tri.cond rfl (fun c6 => ?_) (fun c6 => ?_)
    · replace h := if_t c6 h
      refine Tri.seqK ?_
      refine Tri.run (G := gm_ref03_Sync) tyOk mixed ?_
      conv => whnf
      refine Tri.run (G := gm_ref03_Sync) tyOk mixed ?_
      conv => whnf
      refine fin_here ?_
      conv => whnf
      obtain rfl := Option.some.inj h
      rfl
    · replace h := if_f c6 h
      refine Tri.run (G := gm_ref03_Sync) tyOk mixed ?_
      conv => whnf
      refine Tri.seqK ?_
      refine Tri.run (G := gm_ref03_Sync) tyOk mixed ?_
      conv => whnf
      replace h := bind_some h
      obtain ⟨x7, q8, h⟩ := h
      refine ⟨(ix_some q8).1, ?_⟩
      conv => whnf
      refine ⟨⟨_, map_get encFile (ix_some q8).2, ?_⟩⟩
      conv => whnf
      refine ⟨rfl, ?_⟩
      conv => whnf
      refine Tri.seqK ?_
      refine Tri.run (G := gm_ref03_Sync) tyOk mixed ?_
      conv => whnf
      replace h := need_some h
      obtain ⟨p9, h⟩ := h
      refine ⟨p9, ?_⟩
      conv => whnf
      refine ⟨⟨bs (x7.Safe ++ x7.Wait), bs_append _ _, ?_⟩⟩
      conv => whnf
      replace h := bind_some h
      obtain ⟨y10, q11, h⟩ := h
      refine PureP.mono (ref03_with_walk d y3 ({ Name := x7.Name, Safe := (x7.Safe ++ x7.Wait), Wait := [] } : File) y10 q11) ?_
      rintro _ rfl
      conv => whnf
      refine Tri.run (G := gm_ref03_Sync) tyOk mixed ?_
      conv => whnf
      refine fin_here ?_
      conv => whnf
      obtain rfl := Option.some.inj h
      rfl
noncomputable def ref01_Text (t : Str) : Option (Str) :=
  (ref01_Num (IntKind.u64.wrap (t.length : Int))).bind fun y1 =>
  need (y1.length + t.length ≤ 9223372036854775807) <|
  some (y1 ++ t)
def gm_ref01_Text : Gm := ⟨tys, [], [], []⟩
theorem ref01_Text_walk (t : Str) (r : Str) (h : ref01_Text t = some r) : PureP Try.prog 48 [.v (.string (bs t))] (fun a => a = .v (.string (bs r))) := by
  unfold ref01_Text at h
  refine pureW (G := gm_ref01_Text) tyOk Try.func48 rfl (by kernel_rfl) (by simp [Try.f48]) ?_
  refine Tri.seqK ?_
  refine Tri.run (G := gm_ref01_Text) tyOk mixed ?_
  conv => whnf
  refine Tri.seqK ?_
  refine Tri.run (G := gm_ref01_Text) tyOk mixed ?_
  conv => whnf
  refine ⟨⟨(t.length : Int), rfl, ?_⟩⟩
  conv => whnf
  refine ⟨⟨(IntKind.u64.wrap (t.length : Int)), rfl, ?_⟩⟩
  conv => whnf
  replace h := bind_some h
  obtain ⟨y1, q2, h⟩ := h
  refine PureP.mono (ref01_Num_walk (IntKind.u64.wrap (t.length : Int)) y1 q2) ?_
  rintro _ rfl
  conv => whnf
  replace h := need_some h
  obtain ⟨p3, h⟩ := h
  refine ⟨p3, ?_⟩
  conv => whnf
  refine ⟨⟨bs (y1 ++ t), bs_append _ _, ?_⟩⟩
  conv => whnf
  refine Tri.run (G := gm_ref01_Text) tyOk mixed ?_
  conv => whnf
  refine fin_here ?_
  conv => whnf
  obtain rfl := Option.some.inj h
  rfl
noncomputable def ref02_Seal (s : Str) : Option (Str) :=
  (ref01_Text s).bind fun y1 =>
  (ref02_Of s).bind fun y3 =>
  (ref01_Num (IntKind.u64.wrap y3)).bind fun y5 =>
  need (y1.length + y5.length ≤ 9223372036854775807) <|
  some (y1 ++ y5)
def gm_ref02_Seal : Gm := ⟨tys, [], [], []⟩
theorem ref02_Seal_walk (s : Str) (r : Str) (h : ref02_Seal s = some r) : PureP Try.prog 27 [.v (.string (bs s))] (fun a => a = .v (.string (bs r))) := by
  unfold ref02_Seal at h
  refine pureW (G := gm_ref02_Seal) tyOk Try.func27 rfl (by kernel_rfl) (by simp [Try.f27]) ?_
  refine Tri.seqK ?_
  refine Tri.run (G := gm_ref02_Seal) tyOk mixed ?_
  conv => whnf
  refine Tri.seqK ?_
  refine Tri.run (G := gm_ref02_Seal) tyOk mixed ?_
  conv => whnf
  replace h := bind_some h
  obtain ⟨y1, q2, h⟩ := h
  refine PureP.mono (ref01_Text_walk s y1 q2) ?_
  rintro _ rfl
  conv => whnf
  replace h := bind_some h
  obtain ⟨y3, q4, h⟩ := h
  refine PureP.mono (ref02_Of_walk s y3 q4) ?_
  rintro _ rfl
  conv => whnf
  refine ⟨⟨(IntKind.u64.wrap y3), rfl, ?_⟩⟩
  conv => whnf
  replace h := bind_some h
  obtain ⟨y5, q6, h⟩ := h
  refine PureP.mono (ref01_Num_walk (IntKind.u64.wrap y3) y5 q6) ?_
  rintro _ rfl
  conv => whnf
  replace h := need_some h
  obtain ⟨p7, h⟩ := h
  refine ⟨p7, ?_⟩
  conv => whnf
  refine ⟨⟨bs (y1 ++ y5), bs_append _ _, ?_⟩⟩
  conv => whnf
  refine Tri.run (G := gm_ref02_Seal) tyOk mixed ?_
  conv => whnf
  refine fin_here ?_
  conv => whnf
  obtain rfl := Option.some.inj h
  rfl
noncomputable def ref03_Append (d : Disk) (name : Str) (s : Str) : Option (Disk × Int) :=
  if d.Off then
    some (d, 6)
  else
    if ((decide ((name.length : Int) < 1)) || (decide ((name.length : Int) > 16))) then
      some (d, 1)
    else
      (ref03_at d name).bind fun y15 =>
      if (if (decide (y15 < 0)) then ((decide ((d.Files.length : Int) ≥ 64)) || (decide ((s.length : Int) > d.Room))) else (decide ((s.length : Int) > d.Room))) then
        some (d, 5)
      else
        (
          if (decide (y15 ≥ 0)) then
            (ix d.Files y15).bind fun x46 =>
            some (x46.Name, x46.Safe, x46.Wait)
          else
            some (name, [], [])).bind fun (y43 : Str × Str × Str) =>
        if (decide ((IntKind.i64.wrap ((IntKind.i64.wrap ((y43.2.1.length : Int) + (y43.2.2.length : Int))) + (s.length : Int))) > 65536)) then
          some (d, 4)
        else
          (
            if (decide (y15 < 0)) then
              need ((([] : List File).length + d.Files.length) * 48 ≤ 140737488355328) <|
              need (((([] : List File) ++ d.Files).length + 1) * 48 ≤ 140737488355328) <|
              some ((d.Files.length : Int), ((([] : List File) ++ d.Files) ++ [({ Name := y43.1, Safe := y43.2.1, Wait := y43.2.2 } : File)]))
            else
              some (y15, d.Files)).bind fun (y81 : Int × (List File)) =>
          need (0 ≤ (0 : Int) ∧ 0 ≤ (if ((decide (d.Fuse ≥ 0)) && (decide (d.Fuse < (s.length : Int)))) then d.Fuse else (s.length : Int)) ∧ (if ((decide (d.Fuse ≥ 0)) && (decide (d.Fuse < (s.length : Int)))) then d.Fuse else (s.length : Int)) ≤ (s.length : Int)) <|
          need (y43.2.2.length + (cut s 0 (if ((decide (d.Fuse ≥ 0)) && (decide (d.Fuse < (s.length : Int)))) then d.Fuse else (s.length : Int))).length ≤ 9223372036854775807) <|
          (ref03_with ({ Files := y81.2, Room := d.Room, Fuse := d.Fuse, Off := d.Off } : Disk) y81.1 ({ Name := y43.1, Safe := y43.2.1, Wait := (y43.2.2 ++ (cut s 0 (if ((decide (d.Fuse ≥ 0)) && (decide (d.Fuse < (s.length : Int)))) then d.Fuse else (s.length : Int)))) } : File)).bind fun y128 =>
          if (decide ((if ((decide (d.Fuse ≥ 0)) && (decide (d.Fuse < (s.length : Int)))) then d.Fuse else (s.length : Int)) < (s.length : Int))) then
            some (({ Files := y128.Files, Room := (IntKind.i64.wrap (y128.Room - (if ((decide (d.Fuse ≥ 0)) && (decide (d.Fuse < (s.length : Int)))) then d.Fuse else (s.length : Int)))), Fuse := (if (decide (y128.Fuse ≥ 0)) then (IntKind.i64.wrap (y128.Fuse - (if ((decide (d.Fuse ≥ 0)) && (decide (d.Fuse < (s.length : Int)))) then d.Fuse else (s.length : Int)))) else y128.Fuse), Off := true } : Disk), 6)
          else
            some (({ Files := y128.Files, Room := (IntKind.i64.wrap (y128.Room - (if ((decide (d.Fuse ≥ 0)) && (decide (d.Fuse < (s.length : Int)))) then d.Fuse else (s.length : Int)))), Fuse := (if (decide (y128.Fuse ≥ 0)) then (IntKind.i64.wrap (y128.Fuse - (if ((decide (d.Fuse ≥ 0)) && (decide (d.Fuse < (s.length : Int)))) then d.Fuse else (s.length : Int)))) else y128.Fuse), Off := y128.Off } : Disk), 0)
def gm_ref03_Append : Gm := ⟨tys, [], [], []⟩
theorem ref03_Append_walk (d : Disk) (name : Str) (s : Str) (r : Disk × Int) (h : ref03_Append d name s = some r) : PureP Try.prog 44 [.agg [.sl (List.map encFile d.Files), .v (.int .i64 d.Room), .v (.int .i64 d.Fuse), .v (.bool d.Off)], .v (.string (bs name)), .v (.string (bs s))] (fun a => a = .tup [.agg [.sl (List.map encFile r.1.Files), .v (.int .i64 r.1.Room), .v (.int .i64 r.1.Fuse), .v (.bool r.1.Off)], .v (.int .i64 r.2)]) := by
  unfold ref03_Append at h
  refine pureW (G := gm_ref03_Append) tyOk Try.func44 rfl (by kernel_rfl) (by simp [Try.f44]) ?_
  refine Tri.seqK ?_
  refine Tri.run (G := gm_ref03_Append) tyOk mixed ?_
  conv => whnf
  refine Tri.seqK ?_
  refine Tri.seqK ?_
  refine Tri.run (G := gm_ref03_Append) tyOk mixed ?_
  conv => whnf
  refine Tri.cond rfl (fun c2 => ?_) (fun c2 => ?_)
  · replace h := if_t c2 h
    refine Tri.seqK ?_
    refine Tri.run (G := gm_ref03_Append) tyOk mixed ?_
    conv => whnf
    refine Tri.run (G := gm_ref03_Append) tyOk mixed ?_
    conv => whnf
    refine fin_here ?_
    conv => whnf
    obtain rfl := Option.some.inj h
    rfl
  · replace h := if_f c2 h
    refine Tri.run (G := gm_ref03_Append) tyOk mixed ?_
    conv => whnf
    refine Tri.seqK ?_
    refine Tri.seqK ?_
    refine Tri.cut (fun ex S' => ex = .normal ∧ Weak S' ⟨120, 0, ofRegs [(1, .v (.string (bs name))), (2, .v (.string (bs s))), (3, .ptr 0 0), (6, .ptr 1 0), (21, .v (.bool ((decide ((name.length : Int) < 1)) || (decide ((name.length : Int) > 16)))))], [.var 31 [.sl (List.map encFile d.Files), .v (.int .i64 d.Room), .v (.int .i64 d.Fuse), .v (.bool d.Off)], .var 31 [.v (.slice none 0 0), .v (.int .i64 0), .v (.int .i64 0), .v (.bool false)]]⟩) ?_ ?_
    · refine Tri.run (G := gm_ref03_Append) tyOk mixed ?_
      conv => whnf
      refine ⟨⟨(name.length : Int), rfl, ?_⟩⟩
      conv => whnf
      refine cond_mk (fun c12 => ?_) (fun c12 => ?_)
      · replace c12 : (decide ((name.length : Int) < 1)) = true := c12
        conv => whnf
        exact ⟨rfl, weak_fin _ rfl rfl rfl (.cons (.same rfl) (.cons (.same rfl) (LeH.rest))) (.cons (.one (.same rfl)) (.cons (.one (.same rfl)) (.cons (.one (.same rfl)) (.cons (.one (.same rfl)) (.cons (.one (.same (show (.v (.bool true) : AV) = (.v (.bool ((decide ((name.length : Int) < 1)) || (decide ((name.length : Int) > 16)))) : AV) from by first | (simp [c12]; done) | simp only [c12, Bool.or_true, Bool.true_or, Bool.false_or, Bool.or_false, Bool.and_true, Bool.true_and, Bool.and_false, Bool.false_and, Bool.not_true, Bool.not_false, if_true, if_false, Bool.false_eq_true]))) (.nil)))))) rfl rfl⟩
      · replace c12 : (decide ((name.length : Int) < 1)) = false := c12
        conv => whnf
        refine ⟨⟨(name.length : Int), rfl, ?_⟩⟩
        conv => whnf
        exact ⟨rfl, weak_fin _ rfl rfl rfl (.cons (.same rfl) (.cons (.same rfl) (LeH.rest))) (.cons (.one (.same rfl)) (.cons (.one (.same rfl)) (.cons (.one (.same rfl)) (.cons (.one (.same rfl)) (.cons (.one (.same (show (.v (.bool (decide ((name.length : Int) > 16))) : AV) = (.v (.bool ((decide ((name.length : Int) < 1)) || (decide ((name.length : Int) > 16)))) : AV) from by first | (simp [c12]; done) | simp only [c12, Bool.or_true, Bool.true_or, Bool.false_or, Bool.or_false, Bool.and_true, Bool.true_and, Bool.and_false, Bool.false_and, Bool.not_true, Bool.not_false, if_true, if_false, Bool.false_eq_true]))) (.nil)))))) rfl rfl⟩
    · rintro ex S' ⟨rfl, w13⟩
      conv => whnf
      refine Tri.weak w13 ?_
      refine Tri.cond rfl (fun c14 => ?_) (fun c14 => ?_)
      · replace h := if_t c14 h
        refine Tri.seqK ?_
        refine Tri.run (G := gm_ref03_Append) tyOk mixed ?_
        conv => whnf
        refine Tri.run (G := gm_ref03_Append) tyOk mixed ?_
        conv => whnf
        refine fin_here ?_
        conv => whnf
        obtain rfl := Option.some.inj h
        rfl
      · replace h := if_f c14 h
        refine Tri.run (G := gm_ref03_Append) tyOk mixed ?_
        conv => whnf
        refine Tri.seqK ?_
        refine Tri.run (G := gm_ref03_Append) tyOk mixed ?_
        conv => whnf
        replace h := bind_some h
        obtain ⟨y15, q16, h⟩ := h
        refine PureP.mono (ref03_at_walk d name y15 q16) ?_
        rintro _ rfl
        conv => whnf
        refine Tri.seqK ?_
        refine Tri.seqK ?_
        refine Tri.cut (fun ex S' => ex = .normal ∧ Weak S' ⟨120, 0, ofRegs [(1, .v (.string (bs name))), (2, .v (.string (bs s))), (3, .ptr 0 0), (6, .ptr 1 0), (8, .v (.int .i64 y15)), (40, .v (.bool (if (decide (y15 < 0)) then ((decide ((d.Files.length : Int) ≥ 64)) || (decide ((s.length : Int) > d.Room))) else (decide ((s.length : Int) > d.Room)))))], [.var 31 [.sl (List.map encFile d.Files), .v (.int .i64 d.Room), .v (.int .i64 d.Fuse), .v (.bool d.Off)], .var 31 [.v (.slice none 0 0), .v (.int .i64 0), .v (.int .i64 0), .v (.bool false)]]⟩) ?_ ?_
        · refine Tri.run (G := gm_ref03_Append) tyOk mixed ?_
          conv => whnf
          refine cond_mk (fun c33 => ?_) (fun c33 => ?_)
          · replace c33 : (decide (y15 < 0)) = true := c33
            conv => whnf
            refine ⟨⟨(d.Files.length : Int), (len_map _ _).symm, ?_⟩⟩
            conv => whnf
            refine cond_mk (fun c34 => ?_) (fun c34 => ?_)
            · replace c34 : (decide ((d.Files.length : Int) ≥ 64)) = true := c34
              conv => whnf
              exact ⟨rfl, weak_fin _ rfl rfl rfl (.cons (.same rfl) (.cons (.same rfl) (LeH.rest))) (.cons (.one (.same rfl)) (.cons (.one (.same rfl)) (.cons (.one (.same rfl)) (.cons (.one (.same rfl)) (.cons (.one (.same rfl)) (.cons (.one (.same (show (.v (.bool true) : AV) = (.v (.bool (if (decide (y15 < 0)) then ((decide ((d.Files.length : Int) ≥ 64)) || (decide ((s.length : Int) > d.Room))) else (decide ((s.length : Int) > d.Room)))) : AV) from by first | (simp [c33, c34]; done) | simp only [c33, c34, Bool.or_true, Bool.true_or, Bool.false_or, Bool.or_false, Bool.and_true, Bool.true_and, Bool.and_false, Bool.false_and, Bool.not_true, Bool.not_false, if_true, if_false, Bool.false_eq_true]))) (.nil))))))) rfl rfl⟩
            · replace c34 : (decide ((d.Files.length : Int) ≥ 64)) = false := c34
              conv => whnf
              refine ⟨⟨(s.length : Int), rfl, ?_⟩⟩
              conv => whnf
              exact ⟨rfl, weak_fin _ rfl rfl rfl (.cons (.same rfl) (.cons (.same rfl) (LeH.rest))) (.cons (.one (.same rfl)) (.cons (.one (.same rfl)) (.cons (.one (.same rfl)) (.cons (.one (.same rfl)) (.cons (.one (.same rfl)) (.cons (.one (.same (show (.v (.bool (decide ((s.length : Int) > d.Room))) : AV) = (.v (.bool (if (decide (y15 < 0)) then ((decide ((d.Files.length : Int) ≥ 64)) || (decide ((s.length : Int) > d.Room))) else (decide ((s.length : Int) > d.Room)))) : AV) from by first | (simp [c33, c34]; done) | simp only [c33, c34, Bool.or_true, Bool.true_or, Bool.false_or, Bool.or_false, Bool.and_true, Bool.true_and, Bool.and_false, Bool.false_and, Bool.not_true, Bool.not_false, if_true, if_false, Bool.false_eq_true]))) (.nil))))))) rfl rfl⟩
          · replace c33 : (decide (y15 < 0)) = false := c33
            conv => whnf
            refine ⟨⟨(s.length : Int), rfl, ?_⟩⟩
            conv => whnf
            exact ⟨rfl, weak_fin _ rfl rfl rfl (.cons (.same rfl) (.cons (.same rfl) (LeH.rest))) (.cons (.one (.same rfl)) (.cons (.one (.same rfl)) (.cons (.one (.same rfl)) (.cons (.one (.same rfl)) (.cons (.one (.same rfl)) (.cons (.one (.same (show (.v (.bool (decide ((s.length : Int) > d.Room))) : AV) = (.v (.bool (if (decide (y15 < 0)) then ((decide ((d.Files.length : Int) ≥ 64)) || (decide ((s.length : Int) > d.Room))) else (decide ((s.length : Int) > d.Room)))) : AV) from by first | (simp [c33]; done) | simp only [c33, Bool.or_true, Bool.true_or, Bool.false_or, Bool.or_false, Bool.and_true, Bool.true_and, Bool.and_false, Bool.false_and, Bool.not_true, Bool.not_false, if_true, if_false, Bool.false_eq_true]))) (.nil))))))) rfl rfl⟩
        · rintro ex S' ⟨rfl, w35⟩
          conv => whnf
          refine Tri.weak w35 ?_
          refine Tri.cond rfl (fun c36 => ?_) (fun c36 => ?_)
          · replace h := if_t c36 h
            refine Tri.seqK ?_
            refine Tri.run (G := gm_ref03_Append) tyOk mixed ?_
            conv => whnf
            refine Tri.run (G := gm_ref03_Append) tyOk mixed ?_
            conv => whnf
            refine fin_here ?_
            conv => whnf
            obtain rfl := Option.some.inj h
            rfl
          · replace h := if_f c36 h
            refine Tri.run (G := gm_ref03_Append) tyOk mixed ?_
            conv => whnf
            refine Tri.seqK ?_
            refine Tri.run (G := gm_ref03_Append) tyOk mixed ?_
            conv => whnf
            refine Tri.seqK ?_
            replace h := bind_some h
            obtain ⟨y43, q44, h⟩ := h
            refine Tri.cut (fun ex S' => ex = .normal ∧ Weak S' ⟨120, 0, ofRegs [(2, .v (.string (bs s))), (3, .ptr 0 0), (6, .ptr 1 0), (8, .v (.int .i64 y15)), (9, .ptr 2 0)], [.var 31 [.sl (List.map encFile d.Files), .v (.int .i64 d.Room), .v (.int .i64 d.Fuse), .v (.bool d.Off)], .var 31 [.v (.slice none 0 0), .v (.int .i64 0), .v (.int .i64 0), .v (.bool false)], .var 69 [.v (.string (bs y43.1)), .v (.string (bs y43.2.1)), .v (.string (bs y43.2.2))]]⟩) ?_ ?_
            · refine Tri.seqK ?_
              refine Tri.run (G := gm_ref03_Append) tyOk mixed ?_
              conv => whnf
              refine Tri.cond rfl (fun c45 => ?_) (fun c45 => ?_)
              · replace q44 := if_t c45 q44
                refine Tri.run (G := gm_ref03_Append) tyOk mixed ?_
                conv => whnf
                replace q44 := bind_some q44
                obtain ⟨x46, q47, q44⟩ := q44
                refine ⟨(ix_some q47).1, ?_⟩
                conv => whnf
                refine ⟨⟨_, map_get encFile (ix_some q47).2, ?_⟩⟩
                conv => whnf
                refine ⟨rfl, ?_⟩
                conv => whnf
                obtain rfl := Option.some.inj q44
                exact ⟨rfl, weak_fin _ rfl rfl rfl (.cons (.same rfl) (.cons (.same rfl) (.cons (.same rfl) (LeH.rest)))) (.cons (.one (.same rfl)) (.cons (.one (.same rfl)) (.cons (.one (.same rfl)) (.cons (.one (.same rfl)) (.cons (.one (.same rfl)) (.nil)))))) rfl rfl⟩
              · replace q44 := if_f c45 q44
                refine Tri.run (G := gm_ref03_Append) tyOk mixed ?_
                conv => whnf
                obtain rfl := Option.some.inj q44
                exact ⟨rfl, weak_fin _ rfl rfl rfl (.cons (.same rfl) (.cons (.same rfl) (.cons (.same rfl) (LeH.rest)))) (.cons (.one (.same rfl)) (.cons (.one (.same rfl)) (.cons (.one (.same rfl)) (.cons (.one (.same rfl)) (.cons (.one (.same rfl)) (.nil)))))) rfl rfl⟩
            · rintro ex S' ⟨rfl, w48⟩
              conv => whnf
              refine Tri.weak w48 ?_
              refine Tri.seqK ?_
              refine Tri.seqK ?_
              refine Tri.run (G := gm_ref03_Append) tyOk mixed ?_
              conv => whnf
              refine ⟨⟨(y43.2.1.length : Int), rfl, ?_⟩⟩
              conv => whnf
              refine ⟨⟨(y43.2.2.length : Int), rfl, ?_⟩⟩
              conv => whnf
              refine ⟨⟨(s.length : Int), rfl, ?_⟩⟩
              conv => whnf
              refine Tri.cond rfl (fun c50 => ?_) (fun c50 => ?_)
              · replace h := if_t c50 h
                refine Tri.seqK ?_
                refine Tri.run (G := gm_ref03_Append) tyOk mixed ?_
                conv => whnf
                refine Tri.run (G := gm_ref03_Append) tyOk mixed ?_
                conv => whnf
                refine fin_here ?_
                conv => whnf
                obtain rfl := Option.some.inj h
                rfl
              · replace h := if_f c50 h
                refine Tri.run (G := gm_ref03_Append) tyOk mixed ?_
                conv => whnf
                refine Tri.seqK ?_
                replace h := bind_some h
                obtain ⟨y81, q82, h⟩ := h
                refine Tri.cut (fun ex S' => ex = .normal ∧ Weak S' ⟨120, 0, ofRegs [(2, .v (.string (bs s))), (3, .ptr 0 0), (6, .ptr 1 0), (8, .v (.int .i64 y81.1)), (9, .ptr 2 0)], [.var 31 [.sl (List.map encFile y81.2), .v (.int .i64 d.Room), .v (.int .i64 d.Fuse), .v (.bool d.Off)], .var 31 [.v (.slice none 0 0), .v (.int .i64 0), .v (.int .i64 0), .v (.bool false)], .var 69 [.v (.string (bs y43.1)), .v (.string (bs y43.2.1)), .v (.string (bs y43.2.2))]]⟩) ?_ ?_
                · refine Tri.seqK ?_
                  refine Tri.run (G := gm_ref03_Append) tyOk mixed ?_
                  conv => whnf
                  refine Tri.cond rfl (fun c83 => ?_) (fun c83 => ?_)
                  · replace q82 := if_t c83 q82
                    refine Tri.seqK ?_
                    refine Tri.run (G := gm_ref03_Append) tyOk mixed ?_
                    conv => whnf
                    refine ⟨⟨(d.Files.length : Int), (len_map _ _).symm, ?_⟩⟩
                    conv => whnf
                    refine Tri.run (G := gm_ref03_Append) tyOk mixed ?_
                    conv => whnf
                    replace q82 := need_some q82
                    obtain ⟨p96, q82⟩ := q82
                    replace q82 := need_some q82
                    obtain ⟨p97, q82⟩ := q82
                    refine Draw.many 8 (.take 1 (.take 2 (.take 4 (.alt 0 (.alt 3 (.alt 5 (.alt 6 (.take 7 (.fin)) (.nil)) (.nil)) (.alt 5 (.alt 3 (.alt 6 (.take 7 (.fin)) (.nil)) (.nil)) (.nil))) (.alt 5 (.alt 0 (.alt 3 (.alt 6 (.take 7 (.fin)) (.nil)) (.nil)) (.nil)) (.nil)))))) [] (⟨120, 0, ofRegs [(2, .v (.string (bs s))), (3, .ptr 0 0), (6, .ptr 1 0), (8, .v (.int .i64 (d.Files.length : Int))), (9, .ptr 2 0), (74, .sl (List.map encFile ((([] : List File) ++ d.Files) ++ [({ Name := y43.1, Safe := y43.2.1, Wait := y43.2.2 } : File)]))), (75, .ptr 0 0)], [.var 31 [.sl (List.map encFile d.Files), .v (.int .i64 d.Room), .v (.int .i64 d.Fuse), .v (.bool d.Off)], .var 31 [.v (.slice none 0 0), .v (.int .i64 0), .v (.int .i64 0), .v (.bool false)], .var 69 [.v (.string (bs y43.1)), .v (.string (bs y43.2.1)), .v (.string (bs y43.2.2))]]⟩) (by kernel_rfl) ?_ ?_
                    · conv => whnf
                      refine ⟨?_, ?_⟩
                      · conv => whnf
                        refine ⟨⟨List.map encFile ([] : List File), rfl, ?_⟩⟩
                        conv => whnf
                        refine ⟨?_, ?_⟩
                        · conv => whnf
                          refine ⟨rfl, ?_⟩
                          conv => whnf
                          refine ⟨map_len (f := encFile) (n := 3) (fun _ => rfl) _, ?_⟩
                          conv => whnf
                          refine ⟨by simp only [List.length_map]; exact p96, ?_⟩
                          conv => whnf
                          refine ⟨⟨List.map encFile (([] : List File) ++ d.Files), map_app encFile _ _ rfl rfl, ?_⟩⟩
                          conv => whnf
                          refine ⟨?_, ?_⟩
                          · conv => whnf
                            refine ⟨⟨List.map encFile [({ Name := y43.1, Safe := y43.2.1, Wait := y43.2.2 } : File)], rfl, ?_⟩⟩
                            conv => whnf
                            refine ⟨?_, ?_⟩
                            · conv => whnf
                              refine ⟨rfl, ?_⟩
                              conv => whnf
                              refine ⟨rfl, ?_⟩
                              conv => whnf
                              refine ⟨by simp only [List.length_map]; exact p97, ?_⟩
                              conv => whnf
                              refine ⟨⟨List.map encFile ((([] : List File) ++ d.Files) ++ [({ Name := y43.1, Safe := y43.2.1, Wait := y43.2.2 } : File)]), map_app encFile _ _ rfl rfl, ?_⟩⟩
                              conv => whnf
                              exact Weak.trans (weak_freeze 3 rfl) (weak_fin _ rfl rfl rfl (.cons (.same rfl) (.cons (.same rfl) (.cons (.same rfl) (LeH.rest)))) (.cons (.one (.same rfl)) (.cons (.one (.same rfl)) (.cons (.one (.same rfl)) (.cons (.one (.same rfl)) (.cons (.one (.same rfl)) (.cons (.one (.frz rfl rfl)) (.cons (.one (.same rfl)) (.nil)))))))) rfl rfl)
                            · conv => whnf
                              trivial
                          · conv => whnf
                            trivial
                        · conv => whnf
                          refine ⟨?_, ?_⟩
                          · conv => whnf
                            refine ⟨⟨List.map encFile [({ Name := y43.1, Safe := y43.2.1, Wait := y43.2.2 } : File)], rfl, ?_⟩⟩
                            conv => whnf
                            refine ⟨?_, ?_⟩
                            · conv => whnf
                              refine ⟨rfl, ?_⟩
                              conv => whnf
                              refine ⟨map_len (f := encFile) (n := 3) (fun _ => rfl) _, ?_⟩
                              conv => whnf
                              refine ⟨by simp only [List.length_map]; exact p96, ?_⟩
                              conv => whnf
                              refine ⟨⟨List.map encFile (([] : List File) ++ d.Files), map_app encFile _ _ rfl rfl, ?_⟩⟩
                              conv => whnf
                              refine ⟨?_, ?_⟩
                              · conv => whnf
                                refine ⟨rfl, ?_⟩
                                conv => whnf
                                refine ⟨rfl, ?_⟩
                                conv => whnf
                                refine ⟨by simp only [List.length_map]; exact p97, ?_⟩
                                conv => whnf
                                refine ⟨⟨List.map encFile ((([] : List File) ++ d.Files) ++ [({ Name := y43.1, Safe := y43.2.1, Wait := y43.2.2 } : File)]), map_app encFile _ _ rfl rfl, ?_⟩⟩
                                conv => whnf
                                exact Weak.trans (weak_freeze 3 rfl) (weak_fin _ rfl rfl rfl (.cons (.same rfl) (.cons (.same rfl) (.cons (.same rfl) (LeH.rest)))) (.cons (.one (.same rfl)) (.cons (.one (.same rfl)) (.cons (.one (.same rfl)) (.cons (.one (.same rfl)) (.cons (.one (.same rfl)) (.cons (.one (.frz rfl rfl)) (.cons (.one (.same rfl)) (.nil)))))))) rfl rfl)
                              · conv => whnf
                                trivial
                            · conv => whnf
                              trivial
                          · conv => whnf
                            trivial
                      · conv => whnf
                        refine ⟨?_, ?_⟩
                        · conv => whnf
                          refine ⟨⟨List.map encFile [({ Name := y43.1, Safe := y43.2.1, Wait := y43.2.2 } : File)], rfl, ?_⟩⟩
                          conv => whnf
                          refine ⟨?_, ?_⟩
                          · conv => whnf
                            refine ⟨⟨List.map encFile ([] : List File), rfl, ?_⟩⟩
                            conv => whnf
                            refine ⟨?_, ?_⟩
                            · conv => whnf
                              refine ⟨rfl, ?_⟩
                              conv => whnf
                              refine ⟨map_len (f := encFile) (n := 3) (fun _ => rfl) _, ?_⟩
                              conv => whnf
                              refine ⟨by simp only [List.length_map]; exact p96, ?_⟩
                              conv => whnf
                              refine ⟨⟨List.map encFile (([] : List File) ++ d.Files), map_app encFile _ _ rfl rfl, ?_⟩⟩
                              conv => whnf
                              refine ⟨?_, ?_⟩
                              · conv => whnf
                                refine ⟨rfl, ?_⟩
                                conv => whnf
                                refine ⟨rfl, ?_⟩
                                conv => whnf
                                refine ⟨by simp only [List.length_map]; exact p97, ?_⟩
                                conv => whnf
                                refine ⟨⟨List.map encFile ((([] : List File) ++ d.Files) ++ [({ Name := y43.1, Safe := y43.2.1, Wait := y43.2.2 } : File)]), map_app encFile _ _ rfl rfl, ?_⟩⟩
                                conv => whnf
                                exact Weak.trans (weak_freeze 4 rfl) (weak_fin _ rfl rfl rfl (.cons (.same rfl) (.cons (.same rfl) (.cons (.same rfl) (LeH.rest)))) (.cons (.one (.same rfl)) (.cons (.one (.same rfl)) (.cons (.one (.same rfl)) (.cons (.one (.same rfl)) (.cons (.one (.same rfl)) (.cons (.one (.frz rfl rfl)) (.cons (.one (.same rfl)) (.nil)))))))) rfl rfl)
                              · conv => whnf
                                trivial
                            · conv => whnf
                              trivial
                          · conv => whnf
                            trivial
                        · conv => whnf
                          trivial
                    · conv => whnf
                      obtain rfl := Option.some.inj q82
                      exact ⟨rfl, weak_fin _ rfl rfl rfl (.cons (.same rfl) (.cons (.same rfl) (.cons (.same rfl) (LeH.rest)))) (.cons (.one (.same rfl)) (.cons (.one (.same rfl)) (.cons (.one (.same rfl)) (.cons (.one (.same rfl)) (.cons (.one (.same rfl)) (.nil)))))) rfl rfl⟩
                  · replace q82 := if_f c83 q82
                    refine Tri.run (G := gm_ref03_Append) tyOk mixed ?_
                    conv => whnf
                    obtain rfl := Option.some.inj q82
                    exact ⟨rfl, weak_fin _ rfl rfl rfl (.cons (.same rfl) (.cons (.same rfl) (.cons (.same rfl) (LeH.rest)))) (.cons (.one (.same rfl)) (.cons (.one (.same rfl)) (.cons (.one (.same rfl)) (.cons (.one (.same rfl)) (.cons (.one (.same rfl)) (.nil)))))) rfl rfl⟩
                · rintro ex S' ⟨rfl, w98⟩
                  conv => whnf
                  refine Tri.weak w98 ?_
                  refine Tri.seqK ?_
                  refine Tri.run (G := gm_ref03_Append) tyOk mixed ?_
                  conv => whnf
                  refine ⟨⟨(s.length : Int), rfl, ?_⟩⟩
                  conv => whnf
                  refine Tri.seqK ?_
                  refine Tri.cut (fun ex S' => ex = .normal ∧ Weak S' ⟨120, 0, ofRegs [(2, .v (.string (bs s))), (3, .ptr 0 0), (6, .ptr 1 0), (8, .v (.int .i64 y81.1)), (9, .ptr 2 0), (10, .v (.int .i64 (if ((decide (d.Fuse ≥ 0)) && (decide (d.Fuse < (s.length : Int)))) then d.Fuse else (s.length : Int))))], [.var 31 [.sl (List.map encFile y81.2), .v (.int .i64 d.Room), .v (.int .i64 d.Fuse), .v (.bool d.Off)], .var 31 [.v (.slice none 0 0), .v (.int .i64 0), .v (.int .i64 0), .v (.bool false)], .var 69 [.v (.string (bs y43.1)), .v (.string (bs y43.2.1)), .v (.string (bs y43.2.2))]]⟩) ?_ ?_
                  · refine Tri.seqK ?_
                    refine Tri.cut (fun ex S' => ex = .normal ∧ Weak S' ⟨120, 0, ofRegs [(2, .v (.string (bs s))), (3, .ptr 0 0), (6, .ptr 1 0), (8, .v (.int .i64 y81.1)), (9, .ptr 2 0), (10, .v (.int .i64 (s.length : Int))), (86, .v (.bool ((decide (d.Fuse ≥ 0)) && (decide (d.Fuse < (s.length : Int))))))], [.var 31 [.sl (List.map encFile y81.2), .v (.int .i64 d.Room), .v (.int .i64 d.Fuse), .v (.bool d.Off)], .var 31 [.v (.slice none 0 0), .v (.int .i64 0), .v (.int .i64 0), .v (.bool false)], .var 69 [.v (.string (bs y43.1)), .v (.string (bs y43.2.1)), .v (.string (bs y43.2.2))]]⟩) ?_ ?_
                    · refine Tri.run (G := gm_ref03_Append) tyOk mixed ?_
                      conv => whnf
                      refine cond_mk (fun c120 => ?_) (fun c120 => ?_)
                      · replace c120 : (decide (d.Fuse ≥ 0)) = true := c120
                        conv => whnf
                        exact ⟨rfl, weak_fin _ rfl rfl rfl (.cons (.same rfl) (.cons (.same rfl) (.cons (.same rfl) (LeH.rest)))) (.cons (.one (.same rfl)) (.cons (.one (.same rfl)) (.cons (.one (.same rfl)) (.cons (.one (.same rfl)) (.cons (.one (.same rfl)) (.cons (.one (.same rfl)) (.cons (.one (.same (show (.v (.bool (decide (d.Fuse < (s.length : Int)))) : AV) = (.v (.bool ((decide (d.Fuse ≥ 0)) && (decide (d.Fuse < (s.length : Int))))) : AV) from by first | (simp [c120]; done) | simp only [c120, Bool.or_true, Bool.true_or, Bool.false_or, Bool.or_false, Bool.and_true, Bool.true_and, Bool.and_false, Bool.false_and, Bool.not_true, Bool.not_false, if_true, if_false, Bool.false_eq_true]))) (.nil)))))))) rfl rfl⟩
                      · replace c120 : (decide (d.Fuse ≥ 0)) = false := c120
                        conv => whnf
                        exact ⟨rfl, weak_fin _ rfl rfl rfl (.cons (.same rfl) (.cons (.same rfl) (.cons (.same rfl) (LeH.rest)))) (.cons (.one (.same rfl)) (.cons (.one (.same rfl)) (.cons (.one (.same rfl)) (.cons (.one (.same rfl)) (.cons (.one (.same rfl)) (.cons (.one (.same rfl)) (.cons (.one (.same (show (.v (.bool false) : AV) = (.v (.bool ((decide (d.Fuse ≥ 0)) && (decide (d.Fuse < (s.length : Int))))) : AV) from by first | (simp [c120]; done) | simp only [c120, Bool.or_true, Bool.true_or, Bool.false_or, Bool.or_false, Bool.and_true, Bool.true_and, Bool.and_false, Bool.false_and, Bool.not_true, Bool.not_false, if_true, if_false, Bool.false_eq_true]))) (.nil)))))))) rfl rfl⟩
                    · rintro ex S' ⟨rfl, w121⟩
                      conv => whnf
                      refine Tri.weak w121 ?_
                      refine Tri.cond rfl (fun c122 => ?_) (fun c122 => ?_)
                      · replace c122 : ((decide (d.Fuse ≥ 0)) && (decide (d.Fuse < (s.length : Int)))) = true := c122
                        refine Tri.run (G := gm_ref03_Append) tyOk mixed ?_
                        conv => whnf
                        exact ⟨rfl, weak_fin _ rfl rfl rfl (.cons (.same rfl) (.cons (.same rfl) (.cons (.same rfl) (LeH.rest)))) (.cons (.one (.same rfl)) (.cons (.one (.same rfl)) (.cons (.one (.same rfl)) (.cons (.one (.same rfl)) (.cons (.one (.same rfl)) (.cons (.one (.same (show (.v (.int .i64 d.Fuse) : AV) = (.v (.int .i64 (if ((decide (d.Fuse ≥ 0)) && (decide (d.Fuse < (s.length : Int)))) then d.Fuse else (s.length : Int))) : AV) from by first | (simp [c122]; done) | simp only [c122, Bool.or_true, Bool.true_or, Bool.false_or, Bool.or_false, Bool.and_true, Bool.true_and, Bool.and_false, Bool.false_and, Bool.not_true, Bool.not_false, if_true, if_false, Bool.false_eq_true]))) (.nil))))))) rfl rfl⟩
                      · replace c122 : ((decide (d.Fuse ≥ 0)) && (decide (d.Fuse < (s.length : Int)))) = false := c122
                        refine Tri.run (G := gm_ref03_Append) tyOk mixed ?_
                        conv => whnf
                        exact ⟨rfl, weak_fin _ rfl rfl rfl (.cons (.same rfl) (.cons (.same rfl) (.cons (.same rfl) (LeH.rest)))) (.cons (.one (.same rfl)) (.cons (.one (.same rfl)) (.cons (.one (.same rfl)) (.cons (.one (.same rfl)) (.cons (.one (.same rfl)) (.cons (.one (.same (show (.v (.int .i64 (s.length : Int)) : AV) = (.v (.int .i64 (if ((decide (d.Fuse ≥ 0)) && (decide (d.Fuse < (s.length : Int)))) then d.Fuse else (s.length : Int))) : AV) from by first | (simp [c122]; done) | simp only [c122, Bool.or_true, Bool.true_or, Bool.false_or, Bool.or_false, Bool.and_true, Bool.true_and, Bool.and_false, Bool.false_and, Bool.not_true, Bool.not_false, if_true, if_false, Bool.false_eq_true]))) (.nil))))))) rfl rfl⟩
                  · rintro ex S' ⟨rfl, w123⟩
                    conv => whnf
                    refine Tri.weak w123 ?_
                    refine Tri.seqK ?_
                    refine Tri.run (G := gm_ref03_Append) tyOk mixed ?_
                    conv => whnf
                    refine Draw.one 7 (.take 0 (.take 1 (.take 2 (.take 3 (.take 4 (.take 5 (.take 6 (.fin)))))))) [] (by kernel_rfl) ?_
                    conv => whnf
                    replace h := need_some h
                    obtain ⟨p126, h⟩ := h
                    refine ⟨p126, ?_⟩
                    conv => whnf
                    refine ⟨⟨bs (cut s 0 (if ((decide (d.Fuse ≥ 0)) && (decide (d.Fuse < (s.length : Int)))) then d.Fuse else (s.length : Int))), bs_cut _ _ _, ?_⟩⟩
                    conv => whnf
                    replace h := need_some h
                    obtain ⟨p127, h⟩ := h
                    refine ⟨p127, ?_⟩
                    conv => whnf
                    refine ⟨⟨bs (y43.2.2 ++ (cut s 0 (if ((decide (d.Fuse ≥ 0)) && (decide (d.Fuse < (s.length : Int)))) then d.Fuse else (s.length : Int)))), bs_append _ _, ?_⟩⟩
                    conv => whnf
                    refine Tri.seqK ?_
                    refine Tri.run (G := gm_ref03_Append) tyOk mixed ?_
                    conv => whnf
                    replace h := bind_some h
                    obtain ⟨y128, q129, h⟩ := h
                    refine PureP.mono (ref03_with_walk ({ Files := y81.2, Room := d.Room, Fuse := d.Fuse, Off := d.Off } : Disk) y81.1 ({ Name := y43.1, Safe := y43.2.1, Wait := (y43.2.2 ++ (cut s 0 (if ((decide (d.Fuse ≥ 0)) && (decide (d.Fuse < (s.length : Int)))) then d.Fuse else (s.length : Int)))) } : File) y128 q129) ?_
                    rintro _ rfl
                    conv => whnf
                    refine Tri.seqK ?_
                    refine Tri.run (G := gm_ref03_Append) tyOk mixed ?_
                    conv => whnf
                    refine Tri.seqK ?_
                    refine Tri.cut (fun ex S' => ex = .normal ∧ Weak S' ⟨120, 0, ofRegs [(2, .v (.string (bs s))), (3, .ptr 0 0), (6, .ptr 1 0), (10, .v (.int .i64 (if ((decide (d.Fuse ≥ 0)) && (decide (d.Fuse < (s.length : Int)))) then d.Fuse else (s.length : Int))))], [.var 31 [.sl (List.map encFile y128.Files), .v (.int .i64 (IntKind.i64.wrap (y128.Room - (if ((decide (d.Fuse ≥ 0)) && (decide (d.Fuse < (s.length : Int)))) then d.Fuse else (s.length : Int))))), .v (.int .i64 (if (decide (y128.Fuse ≥ 0)) then (IntKind.i64.wrap (y128.Fuse - (if ((decide (d.Fuse ≥ 0)) && (decide (d.Fuse < (s.length : Int)))) then d.Fuse else (s.length : Int)))) else y128.Fuse)), .v (.bool y128.Off)], .var 31 [.v (.slice none 0 0), .v (.int .i64 0), .v (.int .i64 0), .v (.bool false)]]⟩) ?_ ?_
                    · refine Tri.seqK ?_
                      refine Tri.run (G := gm_ref03_Append) tyOk mixed ?_
                      conv => whnf
                      refine Tri.cond rfl (fun c133 => ?_) (fun c133 => ?_)
                      · replace c133 : (decide (y128.Fuse ≥ 0)) = true := c133
                        refine Tri.run (G := gm_ref03_Append) tyOk mixed ?_
                        conv => whnf
                        exact ⟨rfl, weak_fin _ rfl rfl rfl (.cons (.var (.cons (.same rfl) (.cons (.same rfl) (.cons (.same (show (.v (.int .i64 (IntKind.i64.wrap (y128.Fuse - (if ((decide (d.Fuse ≥ 0)) && (decide (d.Fuse < (s.length : Int)))) then d.Fuse else (s.length : Int))))) : AV) = (.v (.int .i64 (if (decide (y128.Fuse ≥ 0)) then (IntKind.i64.wrap (y128.Fuse - (if ((decide (d.Fuse ≥ 0)) && (decide (d.Fuse < (s.length : Int)))) then d.Fuse else (s.length : Int)))) else y128.Fuse)) : AV) from by first | (simp [c133]; done) | simp only [c133, Bool.or_true, Bool.true_or, Bool.false_or, Bool.or_false, Bool.and_true, Bool.true_and, Bool.and_false, Bool.false_and, Bool.not_true, Bool.not_false, if_true, if_false, Bool.false_eq_true])) (.cons (.same rfl) (.nil)))))) (.cons (.same rfl) (LeH.rest))) (.cons (.one (.same rfl)) (.cons (.one (.same rfl)) (.cons (.one (.same rfl)) (.cons (.one (.same rfl)) (.nil))))) rfl rfl⟩
                      · replace c133 : (decide (y128.Fuse ≥ 0)) = false := c133
                        refine Tri.run (G := gm_ref03_Append) tyOk mixed ?_
                        conv => whnf
                        exact ⟨rfl, weak_fin _ rfl rfl rfl (.cons (.var (.cons (.same rfl) (.cons (.same rfl) (.cons (.same (show (.v (.int .i64 y128.Fuse) : AV) = (.v (.int .i64 (if (decide (y128.Fuse ≥ 0)) then (IntKind.i64.wrap (y128.Fuse - (if ((decide (d.Fuse ≥ 0)) && (decide (d.Fuse < (s.length : Int)))) then d.Fuse else (s.length : Int)))) else y128.Fuse)) : AV) from by first | (simp [c133]; done) | simp only [c133, Bool.or_true, Bool.true_or, Bool.false_or, Bool.or_false, Bool.and_true, Bool.true_and, Bool.and_false, Bool.false_and, Bool.not_true, Bool.not_false, if_true, if_false, Bool.false_eq_true])) (.cons (.same rfl) (.nil)))))) (.cons (.same rfl) (LeH.rest))) (.cons (.one (.same rfl)) (.cons (.one (.same rfl)) (.cons (.one (.same rfl)) (.cons (.one (.same rfl)) (.nil))))) rfl rfl⟩
                    · rintro ex S' ⟨rfl, w134⟩
                      conv => whnf
                      refine Tri.weak w134 ?_
                      refine Tri.seqK ?_
                      refine Tri.seqK ?_
                      refine Tri.run (G := gm_ref03_Append) tyOk mixed ?_
                      conv => whnf
                      refine ⟨⟨(s.length : Int), rfl, ?_⟩⟩
                      conv => whnf
                      refine Tri.cond rfl (fun c136 => ?_) (fun c136 => ?_)
                      · replace h := if_t c136 h
                        refine Tri.seqK ?_
                        refine Tri.run (G := gm_ref03_Append) tyOk mixed ?_
                        conv => whnf
                        refine Tri.seqK ?_
                        refine Tri.run (G := gm_ref03_Append) tyOk mixed ?_
                        conv => whnf
                        refine Tri.run (G := gm_ref03_Append) tyOk mixed ?_
                        conv => whnf
                        refine fin_here ?_
                        conv => whnf
                        obtain rfl := Option.some.inj h
                        rfl
                      · replace h := if_f c136 h
                        refine Tri.run (G := gm_ref03_Append) tyOk mixed ?_
                        conv => whnf
                        refine Tri.seqK ?_
                        refine Tri.run (G := gm_ref03_Append) tyOk mixed ?_
                        conv => whnf
                        refine Tri.run (G := gm_ref03_Append) tyOk mixed ?_
                        conv => whnf
                        refine fin_here ?_
                        conv => whnf
                        obtain rfl := Option.some.inj h
                        rfl
end Go.Ab
