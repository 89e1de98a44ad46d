/- The program's functions as plain Lean functions, and that the program comes to what they come to. Printed by a program of this session. -/
import Derived.Test.YtclmbdacfijifaaW1
namespace Go.Ab
open Go.Proofs
set_option linter.unusedVariables false
set_option linter.unusedSimpArgs false
set_option maxRecDepth 100000
noncomputable def ref03_less (d : Disk) (i : Int) : Option (Disk) :=
  (ix d.Files i).bind fun x3 =>
  need (0 ≤ (0 : Int) ∧ 0 ≤ i ∧ i ≤ (d.Files.length : Int)) <|
  need ((([] : List File).length + (cut d.Files 0 i).length) * 48 ≤ 140737488355328) <|
  need (0 ≤ (IntKind.i64.wrap (i + 1)) ∧ (IntKind.i64.wrap (i + 1)) ≤ (d.Files.length : Int) ∧ (d.Files.length : Int) ≤ (d.Files.length : Int)) <|
  need (((([] : List File) ++ (cut d.Files 0 i)).length + (cut d.Files (IntKind.i64.wrap (i + 1)) (d.Files.length : Int)).length) * 48 ≤ 140737488355328) <|
  some ({ Files := ((([] : List File) ++ (cut d.Files 0 i)) ++ (cut d.Files (IntKind.i64.wrap (i + 1)) (d.Files.length : Int))), Room := (IntKind.i64.wrap ((IntKind.i64.wrap (d.Room + (x3.Safe.length : Int))) + (x3.Wait.length : Int))), Fuse := d.Fuse, Off := d.Off } : Disk)
def gm_ref03_less : Gm := ⟨tys, [], [], []⟩
theorem ref03_less_walk (d : Disk) (i : Int) (r : Disk) (h : ref03_less d i = some r) : PureP Try.prog 44 [.agg [.sl (List.map encFile d.Files), .v (.int .i64 d.Room), .v (.int .i64 d.Fuse), .v (.bool d.Off)], .v (.int .i64 i)] (fun a => a = .agg [.sl (List.map encFile r.Files), .v (.int .i64 r.Room), .v (.int .i64 r.Fuse), .v (.bool r.Off)]) := by
  unfold ref03_less at h
  refine pureW (G := gm_ref03_less) tyOk Try.func44 rfl (by kernel_rfl) (by simp [Try.f44]) ?_
  refine Tri.seqK ?_
  refine Tri.run (G := gm_ref03_less) tyOk mixed ?_
  conv => whnf
  refine Tri.seqK ?_
  refine Tri.run (G := gm_ref03_less) tyOk mixed ?_
  conv => whnf
  refine Draw.one 19 (.take 0 (.take 1 (.take 2 (.take 3 (.take 4 (.take 5 (.take 6 (.take 7 (.take 8 (.take 9 (.take 10 (.take 11 (.take 12 (.take 13 (.take 14 (.take 15 (.take 16 (.take 17 (.take 18 (.fin)))))))))))))))))))) [] (by kernel_rfl) ?_
  conv => whnf
  replace h := bind_some h
  obtain ⟨x3, q4, h⟩ := h
  refine ⟨(ix_some q4).1, ?_⟩
  conv => whnf
  refine ⟨⟨_, map_get encFile (ix_some q4).2, ?_⟩⟩
  conv => whnf
  refine ⟨rfl, ?_⟩
  conv => whnf
  refine ⟨⟨(x3.Safe.length : Int), rfl, ?_⟩⟩
  conv => whnf
  refine ⟨(ix_some q4).1, ?_⟩
  conv => whnf
  refine ⟨⟨_, map_get encFile (ix_some q4).2, ?_⟩⟩
  conv => whnf
  refine ⟨rfl, ?_⟩
  conv => whnf
  refine ⟨⟨(x3.Wait.length : Int), rfl, ?_⟩⟩
  conv => whnf
  refine Tri.seqK ?_
  refine Tri.run (G := gm_ref03_less) tyOk mixed ?_
  conv => whnf
  refine ⟨⟨List.map encFile ([] : List File), rfl, ?_⟩⟩
  conv => whnf
  refine ⟨map_len (f := encFile) (n := 3) (fun _ => rfl) _, ?_⟩
  conv => whnf
  replace h := need_some h
  obtain ⟨p5, h⟩ := h
  refine ⟨by simpa only [List.length_map] using p5, ?_⟩
  conv => whnf
  refine ⟨⟨List.map encFile (cut d.Files 0 i), map_cut _ _ _ _, ?_⟩⟩
  conv => whnf
  refine ⟨rfl, ?_⟩
  conv => whnf
  refine ⟨map_len (f := encFile) (n := 3) (fun _ => rfl) _, ?_⟩
  conv => whnf
  replace h := need_some h
  obtain ⟨p6, h⟩ := h
  refine ⟨by simp only [List.length_map]; exact p6, ?_⟩
  conv => whnf
  refine ⟨⟨List.map encFile (([] : List File) ++ (cut d.Files 0 i)), map_app encFile _ _ rfl rfl, ?_⟩⟩
  conv => whnf
  refine Tri.seqK ?_
  refine Tri.run (G := gm_ref03_less) tyOk mixed ?_
  conv => whnf
  refine ⟨map_len (f := encFile) (n := 3) (fun _ => rfl) _, ?_⟩
  conv => whnf
  replace h := need_some h
  obtain ⟨p7, h⟩ := h
  refine ⟨by simpa only [List.length_map] using p7, ?_⟩
  conv => whnf
  refine ⟨⟨List.map encFile (cut d.Files (IntKind.i64.wrap (i + 1)) (d.Files.length : Int)), by rw [map_cut, len_map], ?_⟩⟩
  conv => whnf
  refine ⟨rfl, ?_⟩
  conv => whnf
  refine ⟨map_len (f := encFile) (n := 3) (fun _ => rfl) _, ?_⟩
  conv => whnf
  replace h := need_some h
  obtain ⟨p8, h⟩ := h
  refine ⟨by simp only [List.length_map]; exact p8, ?_⟩
  conv => whnf
  refine ⟨⟨List.map encFile ((([] : List File) ++ (cut d.Files 0 i)) ++ (cut d.Files (IntKind.i64.wrap (i + 1)) (d.Files.length : Int))), map_app encFile _ _ rfl rfl, ?_⟩⟩
  conv => whnf
  refine Tri.seqK ?_
  refine Tri.run (G := gm_ref03_less) tyOk mixed ?_
  conv => whnf
  refine Tri.run (G := gm_ref03_less) tyOk mixed ?_
  conv => whnf
  refine fin_here ?_
  conv => whnf
  refine ⟨rfl, ?_⟩
  conv => whnf
  obtain rfl := Option.some.inj h
  rfl
noncomputable def ref03_Rename (d : Disk) (from_ : Str) (to : Str) : Option (Disk × Int) :=
  if d.Off then
    some (d, 6)
  else
    if ((decide ((to.length : Int) < 1)) || (decide ((to.length : Int) > 16))) then
      some (d, 1)
    else
      (ref03_at d from_).bind fun y18 =>
      if (decide (y18 < 0)) then
        some (d, 7)
      else
        if (decide (from_ = to)) then
          some (d, 0)
        else
          (ref03_power d).bind fun y23 =>
          if (!y23.2) then
            some (y23.1, 6)
          else
            (ref03_at y23.1 to).bind fun y27 =>
            (
              if (decide (y27 ≥ 0)) then
                (ref03_less y23.1 y27).bind fun y38 =>
                some (y38.Files, y38.Room, y38.Fuse, y38.Off)
              else
                some (y23.1.Files, y23.1.Room, y23.1.Fuse, y23.1.Off)).bind fun (y35 : (List File) × Int × Int × Bool) =>
            (ref03_at ({ Files := y35.1, Room := y35.2.1, Fuse := y35.2.2.1, Off := y35.2.2.2 } : Disk) from_).bind fun y41 =>
            (ix y35.1 y41).bind fun x43 =>
            (ref03_with ({ Files := y35.1, Room := y35.2.1, Fuse := y35.2.2.1, Off := y35.2.2.2 } : Disk) y41 ({ Name := to, Safe := x43.Safe, Wait := x43.Wait } : File)).bind fun y45 =>
            some (y45, 0)
def gm_ref03_Rename : Gm := ⟨tys, [], [], []⟩
theorem ref03_Rename_walk (d : Disk) (from_ : Str) (to : Str) (r : Disk × Int) (h : ref03_Rename d from_ to = some r) : PureP Try.prog 28 [.agg [.sl (List.map encFile d.Files), .v (.int .i64 d.Room), .v (.int .i64 d.Fuse), .v (.bool d.Off)], .v (.string (bs from_)), .v (.string (bs to))] (fun a => a = .tup [.agg [.sl (List.map encFile r.1.Files), .v (.int .i64 r.1.Room), .v (.int .i64 r.1.Fuse), .v (.bool r.1.Off)], .v (.int .i64 r.2)]) := by
  unfold ref03_Rename at h
  refine pureW (G := gm_ref03_Rename) tyOk Try.func28 rfl (by kernel_rfl) (by simp [Try.f28]) ?_
  refine Tri.seqK ?_
  refine Tri.run (G := gm_ref03_Rename) tyOk mixed ?_
  conv => whnf
  refine Tri.seqK ?_
  refine Tri.seqK ?_
  refine Tri.run (G := gm_ref03_Rename) tyOk mixed ?_
  conv => whnf
  refine Tri.cond rfl (fun c2 => ?_) (fun c2 => ?_)
  · replace h := if_t c2 h
    refine Tri.seqK ?_
    refine Tri.run (G := gm_ref03_Rename) tyOk mixed ?_
    conv => whnf
    refine Tri.run (G := gm_ref03_Rename) tyOk mixed ?_
    conv => whnf
    refine fin_here ?_
    conv => whnf
    obtain rfl := Option.some.inj h
    rfl
  · replace h := if_f c2 h
    refine Tri.run (G := gm_ref03_Rename) tyOk mixed ?_
    conv => whnf
    refine Tri.seqK ?_
    refine Tri.seqK ?_
    refine Tri.cut (fun ex S' => ex = .normal ∧ Weak S' ⟨63, 0, ofRegs [(1, .v (.string (bs from_))), (2, .v (.string (bs to))), (3, .ptr 0 0), (6, .ptr 1 0), (22, .v (.bool ((decide ((to.length : Int) < 1)) || (decide ((to.length : Int) > 16)))))], [.var 24 [.sl (List.map encFile d.Files), .v (.int .i64 d.Room), .v (.int .i64 d.Fuse), .v (.bool d.Off)], .var 24 [.v (.slice none 0 0), .v (.int .i64 0), .v (.int .i64 0), .v (.bool false)]]⟩) ?_ ?_
    · refine Tri.run (G := gm_ref03_Rename) tyOk mixed ?_
      conv => whnf
      refine ⟨⟨(to.length : Int), rfl, ?_⟩⟩
      conv => whnf
      refine cond_mk (fun c12 => ?_) (fun c12 => ?_)
      · replace c12 : (decide ((to.length : Int) < 1)) = true := c12
        conv => whnf
        exact ⟨rfl, weak_fin _ rfl rfl rfl (.cons (.same rfl) (.cons (.same rfl) (LeH.rest))) (.cons (.one (.same rfl)) (.cons (.one (.same rfl)) (.cons (.one (.same rfl)) (.cons (.one (.same rfl)) (.cons (.one (.same (show (.v (.bool true) : AV) = (.v (.bool ((decide ((to.length : Int) < 1)) || (decide ((to.length : Int) > 16)))) : AV) from by simp [c12]))) (.nil)))))) rfl rfl⟩
      · replace c12 : (decide ((to.length : Int) < 1)) = false := c12
        conv => whnf
        refine ⟨⟨(to.length : Int), rfl, ?_⟩⟩
        conv => whnf
        exact ⟨rfl, weak_fin _ rfl rfl rfl (.cons (.same rfl) (.cons (.same rfl) (LeH.rest))) (.cons (.one (.same rfl)) (.cons (.one (.same rfl)) (.cons (.one (.same rfl)) (.cons (.one (.same rfl)) (.cons (.one (.same (show (.v (.bool (decide ((to.length : Int) > 16))) : AV) = (.v (.bool ((decide ((to.length : Int) < 1)) || (decide ((to.length : Int) > 16)))) : AV) from by simp [c12]))) (.nil)))))) rfl rfl⟩
    · rintro ex S' ⟨rfl, w13⟩
      conv => whnf
      refine Tri.weak w13 ?_
      refine Tri.cond rfl (fun c14 => ?_) (fun c14 => ?_)
      · replace h := if_t c14 h
        refine Tri.seqK ?_
        refine Tri.run (G := gm_ref03_Rename) tyOk mixed ?_
        conv => whnf
        refine Tri.run (G := gm_ref03_Rename) tyOk mixed ?_
        conv => whnf
        refine fin_here ?_
        conv => whnf
        obtain rfl := Option.some.inj h
        rfl
      · replace h := if_f c14 h
        refine Tri.run (G := gm_ref03_Rename) tyOk mixed ?_
        conv => whnf
        refine Tri.seqK ?_
        refine Tri.seqK ?_
        refine Tri.run (G := gm_ref03_Rename) tyOk mixed ?_
        conv => whnf
        replace h := bind_some h
        obtain ⟨y18, q19, h⟩ := h
        refine PureP.mono (ref03_at_walk d from_ y18 q19) ?_
        rintro _ rfl
        conv => whnf
        refine Tri.cond rfl (fun c20 => ?_) (fun c20 => ?_)
        · replace h := if_t c20 h
          refine Tri.seqK ?_
          refine Tri.run (G := gm_ref03_Rename) tyOk mixed ?_
          conv => whnf
          refine Tri.run (G := gm_ref03_Rename) tyOk mixed ?_
          conv => whnf
          refine fin_here ?_
          conv => whnf
          obtain rfl := Option.some.inj h
          rfl
        · replace h := if_f c20 h
          refine Tri.run (G := gm_ref03_Rename) tyOk mixed ?_
          conv => whnf
          refine Tri.seqK ?_
          refine Tri.seqK ?_
          refine Tri.run (G := gm_ref03_Rename) tyOk mixed ?_
          conv => whnf
          refine ⟨⟨(decide (from_ = to)), bs_eq _ _, ?_⟩⟩
          conv => whnf
          refine Tri.cond rfl (fun c22 => ?_) (fun c22 => ?_)
          · replace h := if_t c22 h
            refine Tri.seqK ?_
            refine Tri.run (G := gm_ref03_Rename) tyOk mixed ?_
            conv => whnf
            refine Tri.run (G := gm_ref03_Rename) tyOk mixed ?_
            conv => whnf
            refine fin_here ?_
            conv => whnf
            obtain rfl := Option.some.inj h
            rfl
          · replace h := if_f c22 h
            refine Tri.run (G := gm_ref03_Rename) tyOk mixed ?_
            conv => whnf
            refine Tri.seqK ?_
            refine Tri.run (G := gm_ref03_Rename) tyOk mixed ?_
            conv => whnf
            replace h := bind_some h
            obtain ⟨y23, q24, h⟩ := h
            refine PureP.mono (ref03_power_walk d y23 q24) ?_
            rintro _ rfl
            conv => whnf
            refine Tri.seqK ?_
            refine Tri.seqK ?_
            refine Tri.run (G := gm_ref03_Rename) tyOk mixed ?_
            conv => whnf
            refine Tri.cond rfl (fun c26 => ?_) (fun c26 => ?_)
            · replace h := if_t c26 h
              refine Tri.seqK ?_
              refine Tri.run (G := gm_ref03_Rename) tyOk mixed ?_
              conv => whnf
              refine Tri.run (G := gm_ref03_Rename) tyOk mixed ?_
              conv => whnf
              refine fin_here ?_
              conv => whnf
              obtain rfl := Option.some.inj h
              rfl
            · replace h := if_f c26 h
              refine Tri.run (G := gm_ref03_Rename) tyOk mixed ?_
              conv => whnf
              refine Tri.seqK ?_
              refine Tri.run (G := gm_ref03_Rename) tyOk mixed ?_
              conv => whnf
              replace h := bind_some h
              obtain ⟨y27, q28, h⟩ := h
              refine PureP.mono (ref03_at_walk y23.1 to y27 q28) ?_
              rintro _ rfl
              conv => whnf
              refine Tri.seqK ?_
              replace h := bind_some h
              obtain ⟨y35, q36, h⟩ := h
              refine Tri.cut (fun ex S' => ex = .normal ∧ Weak S' ⟨63, 0, ofRegs [(1, .v (.string (bs from_))), (2, .v (.string (bs to))), (3, .ptr 0 0), (6, .ptr 1 0)], [.var 24 [.sl (List.map encFile y35.1), .v (.int .i64 y35.2.1), .v (.int .i64 y35.2.2.1), .v (.bool y35.2.2.2)], .var 24 [.v (.slice none 0 0), .v (.int .i64 0), .v (.int .i64 0), .v (.bool false)]]⟩) ?_ ?_
              · refine Tri.seqK ?_
                refine Tri.run (G := gm_ref03_Rename) tyOk mixed ?_
                conv => whnf
                refine Tri.cond rfl (fun c37 => ?_) (fun c37 => ?_)
                · replace q36 := if_t c37 q36
                  refine Tri.run (G := gm_ref03_Rename) tyOk mixed ?_
                  conv => whnf
                  replace q36 := bind_some q36
                  obtain ⟨y38, q39, q36⟩ := q36
                  refine PureP.mono (ref03_less_walk y23.1 y27 y38 q39) ?_
                  rintro _ rfl
                  conv => whnf
                  obtain rfl := Option.some.inj q36
                  exact ⟨rfl, weak_fin _ rfl rfl rfl (.cons (.same rfl) (.cons (.same rfl) (LeH.rest))) (.cons (.one (.same rfl)) (.cons (.one (.same rfl)) (.cons (.one (.same rfl)) (.cons (.one (.same rfl)) (.nil))))) rfl rfl⟩
                · replace q36 := if_f c37 q36
                  refine Tri.run (G := gm_ref03_Rename) tyOk mixed ?_
                  conv => whnf
                  obtain rfl := Option.some.inj q36
                  exact ⟨rfl, weak_fin _ rfl rfl rfl (.cons (.same rfl) (.cons (.same rfl) (LeH.rest))) (.cons (.one (.same rfl)) (.cons (.one (.same rfl)) (.cons (.one (.same rfl)) (.cons (.one (.same rfl)) (.nil))))) rfl rfl⟩
              · rintro ex S' ⟨rfl, w40⟩
                conv => whnf
                refine Tri.weak w40 ?_
                refine Tri.seqK ?_
                refine Tri.run (G := gm_ref03_Rename) tyOk mixed ?_
                conv => whnf
                replace h := bind_some h
                obtain ⟨y41, q42, h⟩ := h
                refine PureP.mono (ref03_at_walk ({ Files := y35.1, Room := y35.2.1, Fuse := y35.2.2.1, Off := y35.2.2.2 } : Disk) from_ y41 q42) ?_
                rintro _ rfl
                conv => whnf
                refine Tri.seqK ?_
                refine Tri.run (G := gm_ref03_Rename) tyOk mixed ?_
                conv => whnf
                replace h := bind_some h
                obtain ⟨x43, q44, h⟩ := h
                refine ⟨(ix_some q44).1, ?_⟩
                conv => whnf
                refine ⟨⟨_, map_get encFile (ix_some q44).2, ?_⟩⟩
                conv => whnf
                refine ⟨rfl, ?_⟩
                conv => whnf
                refine Tri.seqK ?_
                refine Tri.run (G := gm_ref03_Rename) tyOk mixed ?_
                conv => whnf
                refine Tri.seqK ?_
                refine Tri.run (G := gm_ref03_Rename) tyOk mixed ?_
                conv => whnf
                replace h := bind_some h
                obtain ⟨y45, q46, h⟩ := h
                refine PureP.mono (ref03_with_walk ({ Files := y35.1, Room := y35.2.1, Fuse := y35.2.2.1, Off := y35.2.2.2 } : Disk) y41 ({ Name := to, Safe := x43.Safe, Wait := x43.Wait } : File) y45 q46) ?_
                rintro _ rfl
                conv => whnf
                refine Tri.run (G := gm_ref03_Rename) tyOk mixed ?_
                conv => whnf
                refine fin_here ?_
                conv => whnf
                obtain rfl := Option.some.inj h
                rfl
noncomputable def disk_Delete (d : Disk) (name : Str) : Option (Disk × Int) :=
  if d.Off then
    some (d, 6)
  else
    (disk_at d name).bind fun y6 =>
    if (decide (y6 < 0)) then
      some (d, 7)
    else
      (disk_change d).bind fun y9 =>
      if (!y9.2) then
        some (y9.1, 6)
      else
        (disk_at y9.1 name).bind fun y17 =>
        (disk_without y9.1 y17).bind fun y19 =>
        some (y19, 0)
def gm_disk_Delete : Gm := ⟨tys, [], [], []⟩
theorem disk_Delete_walk (d : Disk) (name : Str) (r : Disk × Int) (h : disk_Delete d name = some r) : PureP Try.prog 29 [.agg [.sl (List.map encFile d.Files), .v (.int .i64 d.Room), .v (.int .i64 d.Fuse), .v (.bool d.Off)], .v (.string (bs name))] (fun a => a = .tup [.agg [.sl (List.map encFile r.1.Files), .v (.int .i64 r.1.Room), .v (.int .i64 r.1.Fuse), .v (.bool r.1.Off)], .v (.int .i64 r.2)]) := by
  unfold disk_Delete at h
  refine pureW (G := gm_disk_Delete) tyOk Try.func29 rfl (by kernel_rfl) (by simp [Try.f29]) ?_
  refine Tri.seqK ?_
  refine Tri.run (G := gm_disk_Delete) tyOk mixed ?_
  conv => whnf
  refine Tri.seqK ?_
  refine Tri.block ?_
  refine Tri.seqK ?_
  refine Tri.run (G := gm_disk_Delete) tyOk mixed ?_
  conv => whnf
  refine Tri.cond rfl (fun c5 => ?_) (fun c5 => ?_)
  · replace h := if_t c5 h
    refine Tri.seqK ?_
    refine Tri.run (G := gm_disk_Delete) tyOk mixed ?_
    conv => whnf
    refine Tri.run (G := gm_disk_Delete) tyOk mixed ?_
    conv => whnf
    refine fin_here ?_
    conv => whnf
    obtain rfl := Option.some.inj h
    rfl
  · replace h := if_f c5 h
    refine Tri.seqK ?_
    refine Tri.run (G := gm_disk_Delete) tyOk mixed ?_
    conv => whnf
    replace h := bind_some h
    obtain ⟨y6, q7, h⟩ := h
    refine PureP.mono (disk_at_walk d name y6 q7) ?_
    rintro _ rfl
    conv => whnf
    refine Tri.cond rfl (fun c8 => ?_) (fun c8 => ?_)
    · replace h := if_t c8 h
      refine Tri.seqK ?_
      refine Tri.run (G := gm_disk_Delete) tyOk mixed ?_
      conv => whnf
      refine Tri.run (G := gm_disk_Delete) tyOk mixed ?_
      conv => whnf
      refine fin_here ?_
      conv => whnf
      obtain rfl := Option.some.inj h
      rfl
    · replace h := if_f c8 h
      refine Tri.run (G := gm_disk_Delete) tyOk mixed ?_
      conv => whnf
      refine Tri.seqK ?_
      refine Tri.run (G := gm_disk_Delete) tyOk mixed ?_
      conv => whnf
      replace h := bind_some h
      obtain ⟨y9, q10, h⟩ := h
      refine PureP.mono (disk_change_walk d y9 q10) ?_
      rintro _ rfl
      conv => whnf
      refine Tri.seqK ?_
      refine Tri.seqK ?_
      refine Tri.run (G := gm_disk_Delete) tyOk mixed ?_
      conv => whnf
      refine Tri.cond rfl (fun c12 => ?_) (fun c12 => ?_)
      · replace h := if_t c12 h
        refine Tri.seqK ?_
        refine Tri.run (G := gm_disk_Delete) tyOk mixed ?_
        conv => whnf
        refine Tri.run (G := gm_disk_Delete) tyOk mixed ?_
        conv => whnf
        refine fin_here ?_
        conv => whnf
        obtain rfl := Option.some.inj h
        rfl
      · replace h := if_f c12 h
        refine Tri.run (G := gm_disk_Delete) tyOk mixed ?_
        conv => whnf
        refine Tri.seqK ?_
        refine Tri.run (G := gm_disk_Delete) tyOk mixed ?_
        conv => whnf
        refine Draw.one 5 (.take 0 (.take 1 (.take 2 (.alt 3 (.alt 4 (.fin) (.nil)) (.nil))))) [] (by kernel_rfl) ?_
        conv => whnf
        refine ⟨?_, ?_⟩
        · conv => whnf
          replace h := bind_some h
          obtain ⟨y17, q18, h⟩ := h
          refine PureP.mono (disk_at_walk y9.1 name y17 q18) ?_
          rintro _ rfl
          conv => whnf
          refine ⟨?_, ?_⟩
          · conv => whnf
            replace h := bind_some h
            obtain ⟨y19, q20, h⟩ := h
            refine PureP.mono (disk_without_walk y9.1 y17 y19 q20) ?_
            rintro _ rfl
            conv => whnf
            refine Tri.run (G := gm_disk_Delete) tyOk mixed ?_
            conv => whnf
            refine fin_here ?_
            conv => whnf
            obtain rfl := Option.some.inj h
            rfl
          · conv => whnf
            trivial
        · conv => whnf
          trivial
noncomputable def ref03_Delete (d : Disk) (name : Str) : Option (Disk × Int) :=
  if d.Off then
    some (d, 6)
  else
    (ref03_at d name).bind fun y6 =>
    if (decide (y6 < 0)) then
      some (d, 7)
    else
      (ref03_power d).bind fun y9 =>
      if (!y9.2) then
        some (y9.1, 6)
      else
        (ref03_at y9.1 name).bind fun y17 =>
        (ref03_less y9.1 y17).bind fun y19 =>
        some (y19, 0)
def gm_ref03_Delete : Gm := ⟨tys, [], [], []⟩
theorem ref03_Delete_walk (d : Disk) (name : Str) (r : Disk × Int) (h : ref03_Delete d name = some r) : PureP Try.prog 30 [.agg [.sl (List.map encFile d.Files), .v (.int .i64 d.Room), .v (.int .i64 d.Fuse), .v (.bool d.Off)], .v (.string (bs name))] (fun a => a = .tup [.agg [.sl (List.map encFile r.1.Files), .v (.int .i64 r.1.Room), .v (.int .i64 r.1.Fuse), .v (.bool r.1.Off)], .v (.int .i64 r.2)]) := by
  unfold ref03_Delete at h
  refine pureW (G := gm_ref03_Delete) tyOk Try.func30 rfl (by kernel_rfl) (by simp [Try.f30]) ?_
  refine Tri.seqK ?_
  refine Tri.run (G := gm_ref03_Delete) tyOk mixed ?_
  conv => whnf
  refine Tri.seqK ?_
  refine Tri.seqK ?_
  refine Tri.run (G := gm_ref03_Delete) tyOk mixed ?_
  conv => whnf
  refine Tri.cond rfl (fun c2 => ?_) (fun c2 => ?_)
  · replace h := if_t c2 h
    refine Tri.seqK ?_
    refine Tri.run (G := gm_ref03_Delete) tyOk mixed ?_
    conv => whnf
    refine Tri.run (G := gm_ref03_Delete) tyOk mixed ?_
    conv => whnf
    refine fin_here ?_
    conv => whnf
    obtain rfl := Option.some.inj h
    rfl
  · replace h := if_f c2 h
    refine Tri.run (G := gm_ref03_Delete) tyOk mixed ?_
    conv => whnf
    refine Tri.seqK ?_
    refine Tri.seqK ?_
    refine Tri.run (G := gm_ref03_Delete) tyOk mixed ?_
    conv => whnf
    replace h := bind_some h
    obtain ⟨y6, q7, h⟩ := h
    refine PureP.mono (ref03_at_walk d name y6 q7) ?_
    rintro _ rfl
    conv => whnf
    refine Tri.cond rfl (fun c8 => ?_) (fun c8 => ?_)
    · replace h := if_t c8 h
      refine Tri.seqK ?_
      refine Tri.run (G := gm_ref03_Delete) tyOk mixed ?_
      conv => whnf
      refine Tri.run (G := gm_ref03_Delete) tyOk mixed ?_
      conv => whnf
      refine fin_here ?_
      conv => whnf
      obtain rfl := Option.some.inj h
      rfl
    · replace h := if_f c8 h
      refine Tri.run (G := gm_ref03_Delete) tyOk mixed ?_
      conv => whnf
      refine Tri.seqK ?_
      refine Tri.run (G := gm_ref03_Delete) tyOk mixed ?_
      conv => whnf
      replace h := bind_some h
      obtain ⟨y9, q10, h⟩ := h
      refine PureP.mono (ref03_power_walk d y9 q10) ?_
      rintro _ rfl
      conv => whnf
      refine Tri.seqK ?_
      refine Tri.seqK ?_
      refine Tri.run (G := gm_ref03_Delete) tyOk mixed ?_
      conv => whnf
      refine Tri.cond rfl (fun c12 => ?_) (fun c12 => ?_)
      · replace h := if_t c12 h
        refine Tri.seqK ?_
        refine Tri.run (G := gm_ref03_Delete) tyOk mixed ?_
        conv => whnf
        refine Tri.run (G := gm_ref03_Delete) tyOk mixed ?_
        conv => whnf
        refine fin_here ?_
        conv => whnf
        obtain rfl := Option.some.inj h
        rfl
      · replace h := if_f c12 h
        refine Tri.run (G := gm_ref03_Delete) tyOk mixed ?_
        conv => whnf
        refine Tri.seqK ?_
        refine Tri.run (G := gm_ref03_Delete) tyOk mixed ?_
        conv => whnf
        refine Draw.one 5 (.take 0 (.take 1 (.take 2 (.alt 3 (.alt 4 (.fin) (.nil)) (.nil))))) [] (by kernel_rfl) ?_
        conv => whnf
        refine ⟨?_, ?_⟩
        · conv => whnf
          replace h := bind_some h
          obtain ⟨y17, q18, h⟩ := h
          refine PureP.mono (ref03_at_walk y9.1 name y17 q18) ?_
          rintro _ rfl
          conv => whnf
          refine ⟨?_, ?_⟩
          · conv => whnf
            replace h := bind_some h
            obtain ⟨y19, q20, h⟩ := h
            refine PureP.mono (ref03_less_walk y9.1 y17 y19 q20) ?_
            rintro _ rfl
            conv => whnf
            refine Tri.run (G := gm_ref03_Delete) tyOk mixed ?_
            conv => whnf
            refine fin_here ?_
            conv => whnf
            obtain rfl := Option.some.inj h
            rfl
          · conv => whnf
            trivial
        · conv => whnf
          trivial
noncomputable def ref03_Crash_l2 (d : Disk) (keeps : (List Int)) (a884 : Int) (a885 : Int) (a886 : (List File)) : Option ((Int × Int × (List File)) ⊕ (Int × (List File))) :=
  if (decide (a884 < (d.Files.length : Int))) then
    (ix d.Files a884).bind fun x955 =>
    (
      (
        if (decide (a884 < (keeps.length : Int))) then
          (ix keeps a884).bind fun x998 =>
          some (decide (x998 > 0))
        else
          some false).bind fun (y995 : Bool) =>
      if y995 then
        (ix keeps a884).bind fun x1002 =>
        some x1002
      else
        some 0).bind fun (y987 : Int) =>
    need (0 ≤ (0 : Int) ∧ 0 ≤ (if (decide (y987 > (x955.Wait.length : Int))) then (x955.Wait.length : Int) else y987) ∧ (if (decide (y987 > (x955.Wait.length : Int))) then (x955.Wait.length : Int) else y987) ≤ (x955.Wait.length : Int)) <|
    need (x955.Safe.length + (cut x955.Wait 0 (if (decide (y987 > (x955.Wait.length : Int))) then (x955.Wait.length : Int) else y987)).length ≤ 9223372036854775807) <|
    need ((a886.length + 1) * 48 ≤ 140737488355328) <|
    some (.inl ((IntKind.i64.wrap (a884 + 1)), (IntKind.i64.wrap ((IntKind.i64.wrap (a885 + (x955.Wait.length : Int))) - (if (decide (y987 > (x955.Wait.length : Int))) then (x955.Wait.length : Int) else y987))), (a886 ++ [({ Name := x955.Name, Safe := (x955.Safe ++ (cut x955.Wait 0 (if (decide (y987 > (x955.Wait.length : Int))) then (x955.Wait.length : Int) else y987))), Wait := [] } : File)])))
  else
    some (.inr (a885, a886))
noncomputable def ref03_Crash (d : Disk) (keeps : (List Int)) : Option (Disk) :=
  (loop (fun (s889 : Int × Int × (List File)) => ref03_Crash_l2 d keeps s889.1 s889.2.1 s889.2.2) ((0 : Int), d.Room, ([] : (List File)))).bind fun (y887 : Int × (List File)) =>
  some ({ Files := y887.2, Room := y887.1, Fuse := (-1), Off := false } : Disk)
def gm_ref03_Crash : Gm := ⟨tys, [], [], []⟩
theorem ref03_Crash_walk (d : Disk) (keeps : (List Int)) (r : Disk) (h : ref03_Crash d keeps = some r) : PureP Try.prog 31 [.agg [.sl (List.map encFile d.Files), .v (.int .i64 d.Room), .v (.int .i64 d.Fuse), .v (.bool d.Off)], .sl (List.map (encI .i64) keeps)] (fun a => a = .agg [.sl (List.map encFile r.Files), .v (.int .i64 r.Room), .v (.int .i64 r.Fuse), .v (.bool r.Off)]) := by
  unfold ref03_Crash at h
  refine pureW (G := gm_ref03_Crash) tyOk Try.func31 rfl (by kernel_rfl) (by simp [Try.f31]) ?_
  refine Tri.seqK ?_
  refine Tri.run (G := gm_ref03_Crash) tyOk mixed ?_
  conv => whnf
  refine Tri.seqK ?_
  refine Tri.run (G := gm_ref03_Crash) tyOk mixed ?_
  conv => whnf
  refine Tri.seqK ?_
  refine Tri.seqK ?_
  refine Tri.run (G := gm_ref03_Crash) tyOk mixed ?_
  conv => whnf
  refine Tri.block ?_
  replace h := bind_some h
  obtain ⟨y887, q888, h⟩ := h
  refine Tri.cut (fun ex S' => ex = (.exit 0) ∧ Weak S' ⟨72, 0, ofRegs [(4, .ptr 1 0), (5, .ptr 2 0)], [.gone, .var 24 [.v (.slice none 0 0), .v (.int .i64 0), .v (.int .i64 0), .v (.bool false)], .var 24 [.row 3 ((List.map encFile y887.2).length), .v (.int .i64 y887.1), .v (.int .i64 (-1)), .v (.bool false)], .row 29 3 (List.map encFile y887.2)]⟩) ?_ ?_
  · refine Tri.loopF (fun (s889 : Int × Int × (List File)) => (⟨72, 0, ofRegs [(1, .sl (List.map (encI .i64) keeps)), (2, .ptr 0 0), (4, .ptr 1 0), (5, .ptr 2 0), (6, .v (.int .i64 s889.1))], [.var 24 [.sl (List.map encFile d.Files), .v (.int .i64 d.Room), .v (.int .i64 d.Fuse), .v (.bool d.Off)], .var 24 [.v (.slice none 0 0), .v (.int .i64 0), .v (.int .i64 0), .v (.bool false)], .var 24 [.row 3 ((List.map encFile s889.2.2).length), .v (.int .i64 s889.2.1), .v (.int .i64 (-1)), .v (.bool false)], .row 29 3 (List.map encFile s889.2.2)]⟩ : St)) q888 (Weak.trans (weak_nilcell 2 0 29 3 rfl rfl) (weak_fin _ rfl rfl rfl (.cons (.same rfl) (.cons (.same rfl) (.cons (.var (.cons (.same (show (.row 3 0 : AV) = (.row 3 ((List.map encFile []).length) : AV) from congrArg (AV.row 3) (by simp))) (.cons (.same rfl) (.cons (.same rfl) (.cons (.same rfl) (.nil)))))) (.cons (.same rfl) (LeH.rest))))) (.cons (.one (.same rfl)) (.cons (.one (.same rfl)) (.cons (.one (.same rfl)) (.cons (.one (.same rfl)) (.cons (.one (.same rfl)) (.nil)))))) rfl rfl)) ?_
    rintro ⟨a884, a885, a886⟩ v890 hv r891
    have hv : ref03_Crash_l2 d keeps a884 a885 a886 = some v890 := hv
    unfold ref03_Crash_l2 at hv
    dsimp only
    refine Tri.seqK ?_
    refine Tri.seqK ?_
    refine Tri.run (G := gm_ref03_Crash) tyOk mixed ?_
    conv => whnf
    refine ⟨⟨(d.Files.length : Int), (len_map _ _).symm, ?_⟩⟩
    conv => whnf
    refine Tri.cond rfl (fun c893 => ?_) (fun c893 => ?_)
    · replace hv := if_t c893 hv
      refine Tri.run (G := gm_ref03_Crash) tyOk mixed ?_
      conv => whnf
      refine Tri.seqK ?_
      refine Tri.block ?_
      refine Tri.seqK ?_
      refine Tri.run (G := gm_ref03_Crash) tyOk mixed ?_
      conv => whnf
      replace hv := bind_some hv
      obtain ⟨x955, q956, hv⟩ := hv
      refine ⟨(ix_some q956).1, ?_⟩
      conv => whnf
      refine ⟨⟨_, map_get encFile (ix_some q956).2, ?_⟩⟩
      conv => whnf
      refine ⟨rfl, ?_⟩
      conv => whnf
      refine Tri.seqK ?_
      refine Tri.run (G := gm_ref03_Crash) tyOk mixed ?_
      conv => whnf
      refine Tri.seqK ?_
      replace hv := bind_some hv
      obtain ⟨y987, q988, hv⟩ := hv
      refine Tri.cut (fun ex S' => ex = .normal ∧ Weak S' ⟨72, 0, ofRegs [(1, .sl (List.map (encI .i64) keeps)), (2, .ptr 0 0), (4, .ptr 1 0), (5, .ptr 2 0), (6, .v (.int .i64 a884)), (7, .ptr 4 0), (8, .v (.int .i64 y987))], [.var 24 [.sl (List.map encFile d.Files), .v (.int .i64 d.Room), .v (.int .i64 d.Fuse), .v (.bool d.Off)], .var 24 [.v (.slice none 0 0), .v (.int .i64 0), .v (.int .i64 0), .v (.bool false)], .var 24 [.row 3 ((List.map encFile a886).length), .v (.int .i64 a885), .v (.int .i64 (-1)), .v (.bool false)], .row 29 3 (List.map encFile a886), .var 29 [.v (.string (bs x955.Name)), .v (.string (bs x955.Safe)), .v (.string (bs x955.Wait))]]⟩) ?_ ?_
      · refine Tri.seqK ?_
        replace q988 := bind_some q988
        obtain ⟨y995, q996, q988⟩ := q988
        refine Tri.cut (fun ex S' => ex = .normal ∧ Weak S' ⟨72, 0, ofRegs [(1, .sl (List.map (encI .i64) keeps)), (2, .ptr 0 0), (4, .ptr 1 0), (5, .ptr 2 0), (6, .v (.int .i64 a884)), (7, .ptr 4 0), (8, .v (.int .i64 0)), (34, .v (.bool y995))], [.var 24 [.sl (List.map encFile d.Files), .v (.int .i64 d.Room), .v (.int .i64 d.Fuse), .v (.bool d.Off)], .var 24 [.v (.slice none 0 0), .v (.int .i64 0), .v (.int .i64 0), .v (.bool false)], .var 24 [.row 3 ((List.map encFile a886).length), .v (.int .i64 a885), .v (.int .i64 (-1)), .v (.bool false)], .row 29 3 (List.map encFile a886), .var 29 [.v (.string (bs x955.Name)), .v (.string (bs x955.Safe)), .v (.string (bs x955.Wait))]]⟩) ?_ ?_
        · refine Tri.run (G := gm_ref03_Crash) tyOk mixed ?_
          conv => whnf
          refine ⟨⟨(keeps.length : Int), (len_map _ _).symm, ?_⟩⟩
          conv => whnf
          refine cond_mk (fun c997 => ?_) (fun c997 => ?_)
          · replace q996 := if_t c997 q996
            conv => whnf
            replace q996 := bind_some q996
            obtain ⟨x998, q999, q996⟩ := q996
            refine ⟨(ix_some q999).1, ?_⟩
            conv => whnf
            refine ⟨⟨_, map_get (encI .i64) (ix_some q999).2, ?_⟩⟩
            conv => whnf
            refine ⟨rfl, ?_⟩
            conv => whnf
            obtain rfl := Option.some.inj q996
            exact ⟨rfl, weak_fin _ rfl rfl rfl (.cons (.same rfl) (.cons (.same rfl) (.cons (.same rfl) (.cons (.same rfl) (.cons (.same rfl) (LeH.rest)))))) (.cons (.one (.same rfl)) (.cons (.one (.same rfl)) (.cons (.one (.same rfl)) (.cons (.one (.same rfl)) (.cons (.one (.same rfl)) (.cons (.one (.same rfl)) (.cons (.one (.same rfl)) (.cons (.one (.same rfl)) (.nil))))))))) rfl rfl⟩
          · replace q996 := if_f c997 q996
            conv => whnf
            obtain rfl := Option.some.inj q996
            exact ⟨rfl, weak_fin _ rfl rfl rfl (.cons (.same rfl) (.cons (.same rfl) (.cons (.same rfl) (.cons (.same rfl) (.cons (.same rfl) (LeH.rest)))))) (.cons (.one (.same rfl)) (.cons (.one (.same rfl)) (.cons (.one (.same rfl)) (.cons (.one (.same rfl)) (.cons (.one (.same rfl)) (.cons (.one (.same rfl)) (.cons (.one (.same rfl)) (.cons (.one (.same rfl)) (.nil))))))))) rfl rfl⟩
        · rintro ex S' ⟨rfl, w1000⟩
          conv => whnf
          refine Tri.weak w1000 ?_
          refine Tri.cond rfl (fun c1001 => ?_) (fun c1001 => ?_)
          · replace q988 := if_t c1001 q988
            refine Tri.run (G := gm_ref03_Crash) tyOk mixed ?_
            conv => whnf
            replace q988 := bind_some q988
            obtain ⟨x1002, q1003, q988⟩ := q988
            refine ⟨(ix_some q1003).1, ?_⟩
            conv => whnf
            refine ⟨⟨_, map_get (encI .i64) (ix_some q1003).2, ?_⟩⟩
            conv => whnf
            refine ⟨rfl, ?_⟩
            conv => whnf
            obtain rfl := Option.some.inj q988
            exact ⟨rfl, weak_fin _ rfl rfl rfl (.cons (.same rfl) (.cons (.same rfl) (.cons (.same rfl) (.cons (.same rfl) (.cons (.same rfl) (LeH.rest)))))) (.cons (.one (.same rfl)) (.cons (.one (.same rfl)) (.cons (.one (.same rfl)) (.cons (.one (.same rfl)) (.cons (.one (.same rfl)) (.cons (.one (.same rfl)) (.cons (.one (.same rfl)) (.nil)))))))) rfl rfl⟩
          · replace q988 := if_f c1001 q988
            refine Tri.run (G := gm_ref03_Crash) tyOk mixed ?_
            conv => whnf
            obtain rfl := Option.some.inj q988
            exact ⟨rfl, weak_fin _ rfl rfl rfl (.cons (.same rfl) (.cons (.same rfl) (.cons (.same rfl) (.cons (.same rfl) (.cons (.same rfl) (LeH.rest)))))) (.cons (.one (.same rfl)) (.cons (.one (.same rfl)) (.cons (.one (.same rfl)) (.cons (.one (.same rfl)) (.cons (.one (.same rfl)) (.cons (.one (.same rfl)) (.cons (.one (.same rfl)) (.nil)))))))) rfl rfl⟩
      · rintro ex S' ⟨rfl, w1004⟩
        conv => whnf
        refine Tri.weak w1004 ?_
        refine Tri.seqK ?_
        refine Tri.cut (fun ex S' => ex = .normal ∧ Weak S' ⟨72, 0, ofRegs [(1, .sl (List.map (encI .i64) keeps)), (2, .ptr 0 0), (4, .ptr 1 0), (5, .ptr 2 0), (6, .v (.int .i64 a884)), (7, .ptr 4 0), (8, .v (.int .i64 (if (decide (y987 > (x955.Wait.length : Int))) then (x955.Wait.length : Int) else y987)))], [.var 24 [.sl (List.map encFile d.Files), .v (.int .i64 d.Room), .v (.int .i64 d.Fuse), .v (.bool d.Off)], .var 24 [.v (.slice none 0 0), .v (.int .i64 0), .v (.int .i64 0), .v (.bool false)], .var 24 [.row 3 ((List.map encFile a886).length), .v (.int .i64 a885), .v (.int .i64 (-1)), .v (.bool false)], .row 29 3 (List.map encFile a886), .var 29 [.v (.string (bs x955.Name)), .v (.string (bs x955.Safe)), .v (.string (bs x955.Wait))]]⟩) ?_ ?_
        · refine Tri.seqK ?_
          refine Tri.run (G := gm_ref03_Crash) tyOk mixed ?_
          conv => whnf
          refine ⟨⟨(x955.Wait.length : Int), rfl, ?_⟩⟩
          conv => whnf
          refine Tri.cond rfl (fun c1008 => ?_) (fun c1008 => ?_)
          · replace c1008 : (decide (y987 > (x955.Wait.length : Int))) = true := c1008
            refine Tri.run (G := gm_ref03_Crash) tyOk mixed ?_
            conv => whnf
            refine ⟨⟨(x955.Wait.length : Int), rfl, ?_⟩⟩
            conv => whnf
            exact ⟨rfl, weak_fin _ rfl rfl rfl (.cons (.same rfl) (.cons (.same rfl) (.cons (.same rfl) (.cons (.same rfl) (.cons (.same rfl) (LeH.rest)))))) (.cons (.one (.same rfl)) (.cons (.one (.same rfl)) (.cons (.one (.same rfl)) (.cons (.one (.same rfl)) (.cons (.one (.same rfl)) (.cons (.one (.same rfl)) (.cons (.one (.same (show (.v (.int .i64 (x955.Wait.length : Int)) : AV) = (.v (.int .i64 (if (decide (y987 > (x955.Wait.length : Int))) then (x955.Wait.length : Int) else y987)) : AV) from by simp [c1008]))) (.nil)))))))) rfl rfl⟩
          · replace c1008 : (decide (y987 > (x955.Wait.length : Int))) = false := c1008
            refine Tri.run (G := gm_ref03_Crash) tyOk mixed ?_
            conv => whnf
            exact ⟨rfl, weak_fin _ rfl rfl rfl (.cons (.same rfl) (.cons (.same rfl) (.cons (.same rfl) (.cons (.same rfl) (.cons (.same rfl) (LeH.rest)))))) (.cons (.one (.same rfl)) (.cons (.one (.same rfl)) (.cons (.one (.same rfl)) (.cons (.one (.same rfl)) (.cons (.one (.same rfl)) (.cons (.one (.same rfl)) (.cons (.one (.same (show (.v (.int .i64 y987) : AV) = (.v (.int .i64 (if (decide (y987 > (x955.Wait.length : Int))) then (x955.Wait.length : Int) else y987)) : AV) from by simp [c1008]))) (.nil)))))))) rfl rfl⟩
        · rintro ex S' ⟨rfl, w1009⟩
          conv => whnf
          refine Tri.weak w1009 ?_
          refine Tri.seqK ?_
          refine Tri.run (G := gm_ref03_Crash) tyOk mixed ?_
          conv => whnf
          refine ⟨⟨(x955.Wait.length : Int), rfl, ?_⟩⟩
          conv => whnf
          refine Tri.run (G := gm_ref03_Crash) tyOk mixed ?_
          conv => whnf
          refine Draw.one 15 (.take 0 (.take 1 (.take 2 (.take 3 (.take 4 (.take 5 (.take 6 (.take 7 (.take 8 (.take 9 (.take 10 (.take 11 (.alt 12 (.alt 13 (.take 14 (.fin)) (.nil)) (.nil)))))))))))))) [] (by kernel_rfl) ?_
          conv => whnf
          replace hv := need_some hv
          obtain ⟨p1013, hv⟩ := hv
          refine ⟨p1013, ?_⟩
          conv => whnf
          refine ⟨⟨bs (cut x955.Wait 0 (if (decide (y987 > (x955.Wait.length : Int))) then (x955.Wait.length : Int) else y987)), bs_cut _ _ _, ?_⟩⟩
          conv => whnf
          replace hv := need_some hv
          obtain ⟨p1014, hv⟩ := hv
          refine ⟨p1014, ?_⟩
          conv => whnf
          refine ⟨⟨bs (x955.Safe ++ (cut x955.Wait 0 (if (decide (y987 > (x955.Wait.length : Int))) then (x955.Wait.length : Int) else y987))), bs_append _ _, ?_⟩⟩
          conv => whnf
          refine ⟨?_, ?_⟩
          · conv => whnf
            refine ⟨⟨List.map encFile [({ Name := x955.Name, Safe := (x955.Safe ++ (cut x955.Wait 0 (if (decide (y987 > (x955.Wait.length : Int))) then (x955.Wait.length : Int) else y987))), Wait := [] } : File)], rfl, ?_⟩⟩
            conv => whnf
            refine ⟨?_, ?_⟩
            · conv => whnf
              refine ⟨rfl, ?_⟩
              conv => whnf
              refine ⟨rfl, ?_⟩
              conv => whnf
              replace hv := need_some hv
              obtain ⟨p1015, hv⟩ := hv
              refine ⟨by simp only [List.length_map]; exact p1015, ?_⟩
              conv => whnf
              refine ⟨⟨List.map encFile (a886 ++ [({ Name := x955.Name, Safe := (x955.Safe ++ (cut x955.Wait 0 (if (decide (y987 > (x955.Wait.length : Int))) then (x955.Wait.length : Int) else y987))), Wait := [] } : File)]), map_app encFile _ _ rfl rfl, ?_⟩⟩
              conv => whnf
              refine Tri.run (G := gm_ref03_Crash) tyOk mixed ?_
              conv => whnf
              obtain rfl := Option.some.inj hv
              exact ⟨_, rfl, weak_fin _ rfl rfl rfl (.cons (.same rfl) (.cons (.same rfl) (.cons (.same rfl) (.cons (.same rfl) (LeH.rest))))) (.cons (.one (.same rfl)) (.cons (.one (.same rfl)) (.cons (.one (.same rfl)) (.cons (.one (.same rfl)) (.cons (.one (.same rfl)) (.nil)))))) rfl rfl⟩
            · conv => whnf
              trivial
          · conv => whnf
            trivial
    · replace hv := if_f c893 hv
      refine Tri.run (G := gm_ref03_Crash) tyOk mixed ?_
      conv => whnf
      obtain rfl := Option.some.inj hv
      obtain rfl := r891 _ rfl
      exact ⟨rfl, weak_fin _ rfl rfl rfl (.cons (.gone) (.cons (.same rfl) (.cons (.same rfl) (.cons (.same rfl) (LeH.rest))))) (.cons (.one (.same rfl)) (.cons (.one (.same rfl)) (.nil))) rfl rfl⟩
  · rintro ex S' ⟨rfl, w1016⟩
    conv => whnf
    refine Tri.weak w1016 ?_
    refine Tri.seqK ?_
    refine Tri.run (G := gm_ref03_Crash) tyOk mixed ?_
    conv => whnf
    refine Tri.run (G := gm_ref03_Crash) tyOk mixed ?_
    conv => whnf
    refine fin_here ?_
    conv => whnf
    refine ⟨rfl, ?_⟩
    conv => whnf
    obtain rfl := Option.some.inj h
    rfl
noncomputable def disk_Arm (d : Disk) (fuse : Int) : Option (Disk) :=
  some ({ Files := d.Files, Room := d.Room, Fuse := (if fuse < (-1) then (-1) else fuse), Off := d.Off } : Disk)
def gm_disk_Arm : Gm := ⟨tys, [], [], []⟩
theorem disk_Arm_walk (d : Disk) (fuse : Int) (r : Disk) (h : disk_Arm d fuse = some r) : PureP Try.prog 25 [.agg [.sl (List.map encFile d.Files), .v (.int .i64 d.Room), .v (.int .i64 d.Fuse), .v (.bool d.Off)], .v (.int .i64 fuse)] (fun a => a = .agg [.sl (List.map encFile r.Files), .v (.int .i64 r.Room), .v (.int .i64 r.Fuse), .v (.bool r.Off)]) := by
  unfold disk_Arm at h
  refine pureW (G := gm_disk_Arm) tyOk Try.func25 rfl (by kernel_rfl) (by simp [Try.f25]) ?_
  refine Tri.seqK ?_
  refine Tri.run (G := gm_disk_Arm) tyOk mixed ?_
  conv => whnf
  refine Tri.seqK ?_
  refine Tri.run (G := gm_disk_Arm) tyOk mixed ?_
  conv => whnf
  refine Tri.seqK ?_
  refine Tri.run (G := gm_disk_Arm) tyOk mixed ?_
  conv => whnf
  refine Tri.run (G := gm_disk_Arm) tyOk mixed ?_
  conv => whnf
  refine fin_here ?_
  conv => whnf
  obtain rfl := Option.some.inj h
  rfl
noncomputable def ref03_Arm (d : Disk) (fuse : Int) : Option (Disk) :=
  some ({ Files := d.Files, Room := d.Room, Fuse := (if (decide (fuse < 0)) then (-1) else fuse), Off := d.Off } : Disk)
def gm_ref03_Arm : Gm := ⟨tys, [], [], []⟩
theorem ref03_Arm_walk (d : Disk) (fuse : Int) (r : Disk) (h : ref03_Arm d fuse = some r) : PureP Try.prog 32 [.agg [.sl (List.map encFile d.Files), .v (.int .i64 d.Room), .v (.int .i64 d.Fuse), .v (.bool d.Off)], .v (.int .i64 fuse)] (fun a => a = .agg [.sl (List.map encFile r.Files), .v (.int .i64 r.Room), .v (.int .i64 r.Fuse), .v (.bool r.Off)]) := by
  unfold ref03_Arm at h
  refine pureW (G := gm_ref03_Arm) tyOk Try.func32 rfl (by kernel_rfl) (by simp [Try.f32]) ?_
  refine Tri.seqK ?_
  refine Tri.run (G := gm_ref03_Arm) tyOk mixed ?_
  conv => whnf
  refine Tri.seqK ?_
  refine Tri.run (G := gm_ref03_Arm) tyOk mixed ?_
  conv => whnf
  refine Tri.seqK ?_
  refine Tri.cut (fun ex S' => ex = .normal ∧ Weak S' ⟨11, 0, ofRegs [(2, .ptr 0 0), (4, .ptr 1 0)], [.var 24 [.sl (List.map encFile d.Files), .v (.int .i64 d.Room), .v (.int .i64 (if (decide (fuse < 0)) then (-1) else fuse)), .v (.bool d.Off)], .var 24 [.v (.slice none 0 0), .v (.int .i64 0), .v (.int .i64 0), .v (.bool false)]]⟩) ?_ ?_
  · refine Tri.seqK ?_
    refine Tri.run (G := gm_ref03_Arm) tyOk mixed ?_
    conv => whnf
    refine Tri.cond rfl (fun c4 => ?_) (fun c4 => ?_)
    · replace c4 : (decide (fuse < 0)) = true := c4
      refine Tri.run (G := gm_ref03_Arm) tyOk mixed ?_
      conv => whnf
      exact ⟨rfl, weak_fin _ rfl rfl rfl (.cons (.var (.cons (.same rfl) (.cons (.same rfl) (.cons (.same (show (.v (.int .i64 (-1)) : AV) = (.v (.int .i64 (if (decide (fuse < 0)) then (-1) else fuse)) : AV) from by simp [c4])) (.cons (.same rfl) (.nil)))))) (.cons (.same rfl) (LeH.rest))) (.cons (.one (.same rfl)) (.cons (.one (.same rfl)) (.nil))) rfl rfl⟩
    · replace c4 : (decide (fuse < 0)) = false := c4
      refine Tri.run (G := gm_ref03_Arm) tyOk mixed ?_
      conv => whnf
      exact ⟨rfl, weak_fin _ rfl rfl rfl (.cons (.var (.cons (.same rfl) (.cons (.same rfl) (.cons (.same (show (.v (.int .i64 fuse) : AV) = (.v (.int .i64 (if (decide (fuse < 0)) then (-1) else fuse)) : AV) from by simp [c4])) (.cons (.same rfl) (.nil)))))) (.cons (.same rfl) (LeH.rest))) (.cons (.one (.same rfl)) (.cons (.one (.same rfl)) (.nil))) rfl rfl⟩
  · rintro ex S' ⟨rfl, w5⟩
    conv => whnf
    refine Tri.weak w5 ?_
    refine Tri.seqK ?_
    refine Tri.run (G := gm_ref03_Arm) tyOk mixed ?_
    conv => whnf
    refine Tri.run (G := gm_ref03_Arm) tyOk mixed ?_
    conv => whnf
    refine fin_here ?_
    conv => whnf
    obtain rfl := Option.some.inj h
    rfl
noncomputable def law03_DiskMoves (with_ : DiskMovesIn) : Option (Bool) :=
  law03_shown.bind fun y1 =>
  (disk_Rename with_.D with_.From with_.To).bind fun y3 =>
  (ref03_Rename with_.D with_.From with_.To).bind fun y5 =>
  (disk_Delete with_.D with_.From).bind fun y7 =>
  (ref03_Delete with_.D with_.From).bind fun y9 =>
  (
    (ref03_Same y3.1 y5.1).bind fun y23 =>
    if y23 then
      (ref03_Same y7.1 y9.1).bind fun y26 =>
      some y26
    else
      some false).bind fun (y21 : Bool) =>
  (
    (disk_Crash with_.D with_.Keeps).bind fun y96 =>
    (ref03_Crash with_.D with_.Keeps).bind fun y98 =>
    (ref03_Same y96 y98).bind fun y100 =>
    if y100 then
      (disk_Arm with_.D with_.Fuse).bind fun y103 =>
      (ref03_Arm with_.D with_.Fuse).bind fun y105 =>
      (ref03_Same y103 y105).bind fun y107 =>
      some y107
    else
      some false).bind fun (y81 : Bool) =>
  if y1 then
    if y21 then
      if y81 then
        if (decide (y3.2 = y5.2)) then
          if (decide (y7.2 = y9.2)) then
            (disk_Same with_.D with_.Other).bind fun y127 =>
            (ref03_Same with_.D with_.Other).bind fun y129 =>
            if (y127 == y129) then
              (disk_Same with_.D with_.D).bind fun y132 =>
              some y132
            else
              some false
          else
            some false
        else
          some false
      else
        some false
    else
      some false
  else
    some false
def gm_law03_DiskMoves : Gm := ⟨tys, [], [], []⟩
theorem law03_DiskMoves_walk (with_ : DiskMovesIn) (r : Bool) (h : law03_DiskMoves with_ = some r) : PureP Try.prog 10 [.agg [.sl (List.map encFile with_.D.Files), .v (.int .i64 with_.D.Room), .v (.int .i64 with_.D.Fuse), .v (.bool with_.D.Off), .v (.string (bs with_.From)), .v (.string (bs with_.To)), .sl (List.map (encI .i64) with_.Keeps), .v (.int .i64 with_.Fuse), .sl (List.map encFile with_.Other.Files), .v (.int .i64 with_.Other.Room), .v (.int .i64 with_.Other.Fuse), .v (.bool with_.Other.Off)]] (fun a => a = .v (.bool r)) := by
  unfold law03_DiskMoves at h
  refine pureW (G := gm_law03_DiskMoves) tyOk Try.func10 rfl (by kernel_rfl) (by simp [Try.f10]) ?_
  refine Tri.seqK ?_
  refine Tri.run (G := gm_law03_DiskMoves) tyOk mixed ?_
  conv => whnf
  refine Tri.seqK ?_
  refine Tri.run (G := gm_law03_DiskMoves) tyOk mixed ?_
  conv => whnf
  refine Tri.seqK ?_
  refine Tri.run (G := gm_law03_DiskMoves) tyOk mixed ?_
  conv => whnf
  refine Tri.seqK ?_
  refine Tri.run (G := gm_law03_DiskMoves) tyOk mixed ?_
  conv => whnf
  refine Tri.seqK ?_
  refine Tri.run (G := gm_law03_DiskMoves) tyOk mixed ?_
  conv => whnf
  refine Tri.seqK ?_
  refine Tri.run (G := gm_law03_DiskMoves) tyOk mixed ?_
  conv => whnf
  refine Tri.seqK ?_
  refine Tri.run (G := gm_law03_DiskMoves) tyOk mixed ?_
  conv => whnf
  refine Tri.seqK ?_
  refine Tri.run (G := gm_law03_DiskMoves) tyOk mixed ?_
  conv => whnf
  replace h := bind_some h
  obtain ⟨y1, q2, h⟩ := h
  refine PureP.mono (law03_shown_walk y1 q2) ?_
  rintro _ rfl
  conv => whnf
  refine Tri.seqK ?_
  refine Tri.run (G := gm_law03_DiskMoves) tyOk mixed ?_
  conv => whnf
  replace h := bind_some h
  obtain ⟨y3, q4, h⟩ := h
  refine PureP.mono (disk_Rename_walk with_.D with_.From with_.To y3 q4) ?_
  rintro _ rfl
  conv => whnf
  refine Tri.seqK ?_
  refine Tri.run (G := gm_law03_DiskMoves) tyOk mixed ?_
  conv => whnf
  replace h := bind_some h
  obtain ⟨y5, q6, h⟩ := h
  refine PureP.mono (ref03_Rename_walk with_.D with_.From with_.To y5 q6) ?_
  rintro _ rfl
  conv => whnf
  refine Tri.seqK ?_
  refine Tri.run (G := gm_law03_DiskMoves) tyOk mixed ?_
  conv => whnf
  replace h := bind_some h
  obtain ⟨y7, q8, h⟩ := h
  refine PureP.mono (disk_Delete_walk with_.D with_.From y7 q8) ?_
  rintro _ rfl
  conv => whnf
  refine Tri.seqK ?_
  refine Tri.run (G := gm_law03_DiskMoves) tyOk mixed ?_
  conv => whnf
  replace h := bind_some h
  obtain ⟨y9, q10, h⟩ := h
  refine PureP.mono (ref03_Delete_walk with_.D with_.From y9 q10) ?_
  rintro _ rfl
  conv => whnf
  refine Tri.seqK ?_
  replace h := bind_some h
  obtain ⟨y21, q22, h⟩ := h
  refine Tri.cut (fun ex S' => ex = .normal ∧ Weak S' ⟨114, 0, ofRegs [(3, .ptr 1 0), (6, .sl (List.map (encI .i64) with_.Keeps)), (7, .v (.int .i64 with_.Fuse)), (8, .ptr 2 0), (9, .v (.bool y1)), (11, .v (.int .i64 y3.2)), (13, .v (.int .i64 y5.2)), (15, .v (.int .i64 y7.2)), (17, .v (.int .i64 y9.2)), (18, .v (.bool y21))], [.gone, .var 24 [.sl (List.map encFile with_.D.Files), .v (.int .i64 with_.D.Room), .v (.int .i64 with_.D.Fuse), .v (.bool with_.D.Off)], .var 24 [.sl (List.map encFile with_.Other.Files), .v (.int .i64 with_.Other.Room), .v (.int .i64 with_.Other.Fuse), .v (.bool with_.Other.Off)]]⟩) ?_ ?_
  · refine Tri.run (G := gm_law03_DiskMoves) tyOk mixed ?_
    conv => whnf
    replace q22 := bind_some q22
    obtain ⟨y23, q24, q22⟩ := q22
    refine PureP.mono (ref03_Same_walk y3.1 y5.1 y23 q24) ?_
    rintro _ rfl
    conv => whnf
    refine cond_mk (fun c25 => ?_) (fun c25 => ?_)
    · replace q22 := if_t c25 q22
      conv => whnf
      replace q22 := bind_some q22
      obtain ⟨y26, q27, q22⟩ := q22
      refine PureP.mono (ref03_Same_walk y7.1 y9.1 y26 q27) ?_
      rintro _ rfl
      conv => whnf
      obtain rfl := Option.some.inj q22
      exact ⟨rfl, weak_fin _ rfl rfl rfl (.cons (.gone) (.cons (.same rfl) (.cons (.same rfl) (LeH.rest)))) (.cons (.one (.same rfl)) (.cons (.one (.same rfl)) (.cons (.one (.same rfl)) (.cons (.one (.same rfl)) (.cons (.one (.same rfl)) (.cons (.one (.same rfl)) (.cons (.one (.same rfl)) (.cons (.one (.same rfl)) (.cons (.one (.same rfl)) (.cons (.one (.same rfl)) (.nil))))))))))) rfl rfl⟩
    · replace q22 := if_f c25 q22
      conv => whnf
      obtain rfl := Option.some.inj q22
      exact ⟨rfl, weak_fin _ rfl rfl rfl (.cons (.gone) (.cons (.same rfl) (.cons (.same rfl) (LeH.rest)))) (.cons (.one (.same rfl)) (.cons (.one (.same rfl)) (.cons (.one (.same rfl)) (.cons (.one (.same rfl)) (.cons (.one (.same rfl)) (.cons (.one (.same rfl)) (.cons (.one (.same rfl)) (.cons (.one (.same rfl)) (.cons (.one (.same rfl)) (.cons (.one (.same rfl)) (.nil))))))))))) rfl rfl⟩
  · rintro ex S' ⟨rfl, w28⟩
    conv => whnf
    refine Tri.weak w28 ?_
    refine Tri.seqK ?_
    replace h := bind_some h
    obtain ⟨y81, q82, h⟩ := h
    refine Tri.cut (fun ex S' => ex = .normal ∧ Weak S' ⟨114, 0, ofRegs [(3, .ptr 1 0), (8, .ptr 2 0), (9, .v (.bool y1)), (11, .v (.int .i64 y3.2)), (13, .v (.int .i64 y5.2)), (15, .v (.int .i64 y7.2)), (17, .v (.int .i64 y9.2)), (18, .v (.bool y21)), (19, .v (.bool y81))], [.gone, .var 24 [.sl (List.map encFile with_.D.Files), .v (.int .i64 with_.D.Room), .v (.int .i64 with_.D.Fuse), .v (.bool with_.D.Off)], .var 24 [.sl (List.map encFile with_.Other.Files), .v (.int .i64 with_.Other.Room), .v (.int .i64 with_.Other.Fuse), .v (.bool with_.Other.Off)]]⟩) ?_ ?_
    · refine Tri.run (G := gm_law03_DiskMoves) tyOk mixed ?_
      conv => whnf
      refine Draw.one 17 (.take 0 (.take 1 (.take 3 (.take 4 (.alt 2 (.alt 5 (.alt 6 (.take 7 (.take 8 (.take 9 (.take 11 (.take 12 (.alt 10 (.alt 13 (.alt 14 (.take 15 (.take 16 (.fin))) (.nil)) (.nil)) (.nil))))))) (.nil)) (.nil)) (.nil)))))) [] (by kernel_rfl) ?_
      conv => whnf
      refine ⟨?_, ?_⟩
      · conv => whnf
        replace q82 := bind_some q82
        obtain ⟨y96, q97, q82⟩ := q82
        refine PureP.mono (disk_Crash_walk with_.D with_.Keeps y96 q97) ?_
        rintro _ rfl
        conv => whnf
        refine ⟨?_, ?_⟩
        · conv => whnf
          replace q82 := bind_some q82
          obtain ⟨y98, q99, q82⟩ := q82
          refine PureP.mono (ref03_Crash_walk with_.D with_.Keeps y98 q99) ?_
          rintro _ rfl
          conv => whnf
          refine ⟨?_, ?_⟩
          · conv => whnf
            replace q82 := bind_some q82
            obtain ⟨y100, q101, q82⟩ := q82
            refine PureP.mono (ref03_Same_walk y96 y98 y100 q101) ?_
            rintro _ rfl
            conv => whnf
            refine cond_mk (fun c102 => ?_) (fun c102 => ?_)
            · replace q82 := if_t c102 q82
              conv => whnf
              refine ⟨?_, ?_⟩
              · conv => whnf
                replace q82 := bind_some q82
                obtain ⟨y103, q104, q82⟩ := q82
                refine PureP.mono (disk_Arm_walk with_.D with_.Fuse y103 q104) ?_
                rintro _ rfl
                conv => whnf
                refine ⟨?_, ?_⟩
                · conv => whnf
                  replace q82 := bind_some q82
                  obtain ⟨y105, q106, q82⟩ := q82
                  refine PureP.mono (ref03_Arm_walk with_.D with_.Fuse y105 q106) ?_
                  rintro _ rfl
                  conv => whnf
                  refine ⟨?_, ?_⟩
                  · conv => whnf
                    replace q82 := bind_some q82
                    obtain ⟨y107, q108, q82⟩ := q82
                    refine PureP.mono (ref03_Same_walk y103 y105 y107 q108) ?_
                    rintro _ rfl
                    conv => whnf
                    obtain rfl := Option.some.inj q82
                    exact ⟨rfl, weak_fin _ rfl rfl rfl (.cons (.same rfl) (.cons (.same rfl) (.cons (.same rfl) (LeH.rest)))) (.cons (.one (.same rfl)) (.cons (.one (.same rfl)) (.cons (.one (.same rfl)) (.cons (.one (.same rfl)) (.cons (.one (.same rfl)) (.cons (.one (.same rfl)) (.cons (.one (.same rfl)) (.cons (.one (.same rfl)) (.cons (.one (.same rfl)) (.nil)))))))))) rfl rfl⟩
                  · conv => whnf
                    trivial
                · conv => whnf
                  trivial
              · conv => whnf
                trivial
            · replace q82 := if_f c102 q82
              conv => whnf
              refine ⟨?_, ?_⟩
              · conv => whnf
                refine ⟨?_, ?_⟩
                · conv => whnf
                  refine ⟨?_, ?_⟩
                  · conv => whnf
                    obtain rfl := Option.some.inj q82
                    exact ⟨rfl, weak_fin _ rfl rfl rfl (.cons (.same rfl) (.cons (.same rfl) (.cons (.same rfl) (LeH.rest)))) (.cons (.one (.same rfl)) (.cons (.one (.same rfl)) (.cons (.one (.same rfl)) (.cons (.one (.same rfl)) (.cons (.one (.same rfl)) (.cons (.one (.same rfl)) (.cons (.one (.same rfl)) (.cons (.one (.same rfl)) (.cons (.one (.same rfl)) (.nil)))))))))) rfl rfl⟩
                  · conv => whnf
                    trivial
                · conv => whnf
                  trivial
              · conv => whnf
                trivial
          · conv => whnf
            trivial
        · conv => whnf
          trivial
      · conv => whnf
        trivial
    · rintro ex S' ⟨rfl, w109⟩
      conv => whnf
      refine Tri.weak w109 ?_
      refine Tri.seqK ?_
      refine Tri.run (G := gm_law03_DiskMoves) tyOk mixed ?_
      conv => whnf
      refine Draw.one 32 (.take 0 (.take 1 (.take 2 (.take 3 (.take 4 (.take 5 (.take 6 (.take 7 (.take 8 (.take 9 (.take 10 (.take 11 (.take 12 (.take 13 (.take 14 (.take 15 (.take 16 (.take 17 (.take 18 (.take 19 (.take 21 (.take 22 (.alt 20 (.alt 23 (.take 24 (.take 25 (.take 26 (.take 27 (.take 28 (.alt 29 (.take 30 (.take 31 (.fin))) (.nil))))))) (.nil)) (.nil)))))))))))))))))))))))) [] (by kernel_rfl) ?_
      conv => whnf
      refine cond_mk (fun c122 => ?_) (fun c122 => ?_)
      · replace h := if_t c122 h
        conv => whnf
        refine cond_mk (fun c123 => ?_) (fun c123 => ?_)
        · replace h := if_t c123 h
          conv => whnf
          refine cond_mk (fun c124 => ?_) (fun c124 => ?_)
          · replace h := if_t c124 h
            conv => whnf
            refine cond_mk (fun c125 => ?_) (fun c125 => ?_)
            · replace h := if_t c125 h
              conv => whnf
              refine cond_mk (fun c126 => ?_) (fun c126 => ?_)
              · replace h := if_t c126 h
                conv => whnf
                refine ⟨?_, ?_⟩
                · conv => whnf
                  replace h := bind_some h
                  obtain ⟨y127, q128, h⟩ := h
                  refine PureP.mono (disk_Same_walk with_.D with_.Other y127 q128) ?_
                  rintro _ rfl
                  conv => whnf
                  refine ⟨?_, ?_⟩
                  · conv => whnf
                    replace h := bind_some h
                    obtain ⟨y129, q130, h⟩ := h
                    refine PureP.mono (ref03_Same_walk with_.D with_.Other y129 q130) ?_
                    rintro _ rfl
                    conv => whnf
                    refine cond_mk (fun c131 => ?_) (fun c131 => ?_)
                    · replace h := if_t c131 h
                      conv => whnf
                      refine ⟨?_, ?_⟩
                      · conv => whnf
                        replace h := bind_some h
                        obtain ⟨y132, q133, h⟩ := h
                        refine PureP.mono (disk_Same_walk with_.D with_.D y132 q133) ?_
                        rintro _ rfl
                        conv => whnf
                        refine Tri.run (G := gm_law03_DiskMoves) tyOk mixed ?_
                        conv => whnf
                        refine fin_here ?_
                        conv => whnf
                        obtain rfl := Option.some.inj h
                        rfl
                      · conv => whnf
                        trivial
                    · replace h := if_f c131 h
                      conv => whnf
                      refine ⟨?_, ?_⟩
                      · conv => whnf
                        refine Tri.run (G := gm_law03_DiskMoves) tyOk mixed ?_
                        conv => whnf
                        refine fin_here ?_
                        conv => whnf
                        obtain rfl := Option.some.inj h
                        rfl
                      · conv => whnf
                        trivial
                  · conv => whnf
                    trivial
                · conv => whnf
                  trivial
              · replace h := if_f c126 h
                conv => whnf
                refine ⟨?_, ?_⟩
                · conv => whnf
                  refine ⟨?_, ?_⟩
                  · conv => whnf
                    refine ⟨?_, ?_⟩
                    · conv => whnf
                      refine Tri.run (G := gm_law03_DiskMoves) tyOk mixed ?_
                      conv => whnf
                      refine fin_here ?_
                      conv => whnf
                      obtain rfl := Option.some.inj h
                      rfl
                    · conv => whnf
                      trivial
                  · conv => whnf
                    trivial
                · conv => whnf
                  trivial
            · replace h := if_f c125 h
              conv => whnf
              refine ⟨?_, ?_⟩
              · conv => whnf
                refine ⟨?_, ?_⟩
                · conv => whnf
                  refine ⟨?_, ?_⟩
                  · conv => whnf
                    refine Tri.run (G := gm_law03_DiskMoves) tyOk mixed ?_
                    conv => whnf
                    refine fin_here ?_
                    conv => whnf
                    obtain rfl := Option.some.inj h
                    rfl
                  · conv => whnf
                    trivial
                · conv => whnf
                  trivial
              · conv => whnf
                trivial
          · replace h := if_f c124 h
            conv => whnf
            refine ⟨?_, ?_⟩
            · conv => whnf
              refine ⟨?_, ?_⟩
              · conv => whnf
                refine ⟨?_, ?_⟩
                · conv => whnf
                  refine Tri.run (G := gm_law03_DiskMoves) tyOk mixed ?_
                  conv => whnf
                  refine fin_here ?_
                  conv => whnf
                  obtain rfl := Option.some.inj h
                  rfl
                · conv => whnf
                  trivial
              · conv => whnf
                trivial
            · conv => whnf
              trivial
        · replace h := if_f c123 h
          conv => whnf
          refine ⟨?_, ?_⟩
          · conv => whnf
            refine ⟨?_, ?_⟩
            · conv => whnf
              refine ⟨?_, ?_⟩
              · conv => whnf
                refine Tri.run (G := gm_law03_DiskMoves) tyOk mixed ?_
                conv => whnf
                refine fin_here ?_
                conv => whnf
                obtain rfl := Option.some.inj h
                rfl
              · conv => whnf
                trivial
            · conv => whnf
              trivial
          · conv => whnf
            trivial
      · replace h := if_f c122 h
        conv => whnf
        refine ⟨?_, ?_⟩
        · conv => whnf
          refine ⟨?_, ?_⟩
          · conv => whnf
            refine ⟨?_, ?_⟩
            · conv => whnf
              refine Tri.run (G := gm_law03_DiskMoves) tyOk mixed ?_
              conv => whnf
              refine fin_here ?_
              conv => whnf
              obtain rfl := Option.some.inj h
              rfl
            · conv => whnf
              trivial
          · conv => whnf
            trivial
        · conv => whnf
          trivial
noncomputable def law03_DiskWhole_l14 (d : Disk) (a468 : Int) (a589 : Int) : Option ((Int) ⊕ ((Unit) ⊕ (Unit))) :=
  if (decide (a589 < a468)) then
    (ix d.Files a468).bind fun x612 =>
    (ix d.Files a589).bind fun x614 =>
    if (decide (x612.Name = x614.Name)) then
      some (.inr (.inl ()))
    else
      some (.inl (IntKind.i64.wrap (a589 + 1)))
  else
    some (.inr (.inr ()))
noncomputable def law03_DiskWhole_l12 (d : Disk) (a468 : Int) : Option ((Int) ⊕ ((Unit) ⊕ (Unit))) :=
  if (decide (a468 < (d.Files.length : Int))) then
    (loop (fun (s594 : Int) => law03_DiskWhole_l14 d a468 s594) (0 : Int)).bind fun (y590 : (Unit) ⊕ (Unit)) =>
    match y590 with
    | (.inl v592) =>
      some (.inr (.inl ()))
    | (.inr v593) =>
      some (.inl (IntKind.i64.wrap (a468 + 1)))
  else
    some (.inr (.inr ()))
noncomputable def law03_DiskWhole (d : Disk) (from_ : Str) (to : Str) : Option (Bool) :=
  law03_shown.bind fun y1 =>
  (loop (fun (s473 : Int) => law03_DiskWhole_l12 d s473) (0 : Int)).bind fun (y469 : (Unit) ⊕ (Unit)) =>
  match y469 with
  | (.inl v471) =>
    some y1
  | (.inr v472) =>
    (disk_Read d from_).bind fun y619 =>
    (disk_Rename d from_ to).bind fun y621 =>
    if (!(decide (y621.2 = 0))) then
      if y1 then
        (disk_Same ({ Files := y621.1.Files, Room := y621.1.Room, Fuse := d.Fuse, Off := d.Off } : Disk) d).bind fun y629 =>
        some y629
      else
        some false
    else
      (disk_Read y621.1 to).bind fun y631 =>
      (disk_Read y621.1 from_).bind fun y633 =>
      if y1 then
        if (decide (y619.2 = 0)) then
          if (decide (y631.2 = 0)) then
            if (decide (y631.1 = y619.1)) then
              if (decide (from_ = to)) then
                some true
              else
                some (decide (y633.2 = 7))
            else
              some false
          else
            some false
        else
          some false
      else
        some false
def gm_law03_DiskWhole : Gm := ⟨tys, [], [], []⟩
theorem law03_DiskWhole_walk (d : Disk) (from_ : Str) (to : Str) (r : Bool) (h : law03_DiskWhole d from_ to = some r) : PureP Try.prog 6 [.agg [.sl (List.map encFile d.Files), .v (.int .i64 d.Room), .v (.int .i64 d.Fuse), .v (.bool d.Off)], .v (.string (bs from_)), .v (.string (bs to))] (fun a => a = .v (.bool r)) := by
  unfold law03_DiskWhole at h
  refine pureW (G := gm_law03_DiskWhole) tyOk Try.func6 rfl (by kernel_rfl) (by simp [Try.f6]) ?_
  refine Tri.seqK ?_
  refine Tri.run (G := gm_law03_DiskWhole) tyOk mixed ?_
  conv => whnf
  refine Tri.seqK ?_
  refine Tri.run (G := gm_law03_DiskWhole) tyOk mixed ?_
  conv => whnf
  replace h := bind_some h
  obtain ⟨y1, q2, h⟩ := h
  refine PureP.mono (law03_shown_walk y1 q2) ?_
  rintro _ rfl
  conv => whnf
  refine Tri.seqK ?_
  refine Tri.seqK ?_
  refine Tri.run (G := gm_law03_DiskWhole) tyOk mixed ?_
  conv => whnf
  refine Tri.block ?_
  replace h := bind_some h
  obtain ⟨y469, q470, h⟩ := h
  refine Tri.cut (fun ex S' => (∃ v471 : Unit, y469 = (.inl v471) ∧ ex = .ret ∧ Weak S' ⟨107, 0, ofRegs [(6, .v (.bool y1))], []⟩) ∨ (∃ v472 : Unit, y469 = (.inr v472) ∧ ex = (.exit 0) ∧ Weak S' ⟨107, 0, ofRegs [(1, .v (.string (bs from_))), (2, .v (.string (bs to))), (3, .ptr 0 0), (7, .v (.bool y1))], [.var 24 [.sl (List.map encFile d.Files), .v (.int .i64 d.Room), .v (.int .i64 d.Fuse), .v (.bool d.Off)]]⟩)) ?_ ?_
  · refine Tri.loopF (fun (s473 : Int) => (⟨107, 0, ofRegs [(1, .v (.string (bs from_))), (2, .v (.string (bs to))), (3, .ptr 0 0), (7, .v (.bool y1)), (8, .v (.int .i64 s473))], [.var 24 [.sl (List.map encFile d.Files), .v (.int .i64 d.Room), .v (.int .i64 d.Fuse), .v (.bool d.Off)]]⟩ : St)) q470 (weak_fin _ rfl rfl rfl (.cons (.same rfl) (LeH.rest)) (.cons (.one (.same rfl)) (.cons (.one (.same rfl)) (.cons (.one (.same rfl)) (.cons (.one (.same rfl)) (.cons (.one (.same rfl)) (.nil)))))) rfl rfl) ?_
    rintro a468 v474 hv r475
    have hv : law03_DiskWhole_l12 d a468 = some v474 := hv
    unfold law03_DiskWhole_l12 at hv
    refine Tri.seqK ?_
    refine Tri.seqK ?_
    refine Tri.run (G := gm_law03_DiskWhole) tyOk mixed ?_
    conv => whnf
    refine ⟨⟨(d.Files.length : Int), (len_map _ _).symm, ?_⟩⟩
    conv => whnf
    refine Tri.cond rfl (fun c477 => ?_) (fun c477 => ?_)
    · replace hv := if_t c477 hv
      refine Tri.run (G := gm_law03_DiskWhole) tyOk mixed ?_
      conv => whnf
      refine Tri.seqK ?_
      refine Tri.block ?_
      refine Tri.seqK ?_
      refine Tri.run (G := gm_law03_DiskWhole) tyOk mixed ?_
      conv => whnf
      refine Tri.block ?_
      replace hv := bind_some hv
      obtain ⟨y590, q591, hv⟩ := hv
      refine Tri.cut (fun ex S' => (∃ v592 : Unit, y590 = (.inl v592) ∧ ex = .ret ∧ Weak S' ⟨107, 0, ofRegs [(6, .v (.bool y1))], []⟩) ∨ (∃ v593 : Unit, y590 = (.inr v593) ∧ ex = (.exit 2) ∧ Weak S' ⟨107, 0, ofRegs [(1, .v (.string (bs from_))), (2, .v (.string (bs to))), (3, .ptr 0 0), (7, .v (.bool y1)), (8, .v (.int .i64 a468))], [.var 24 [.sl (List.map encFile d.Files), .v (.int .i64 d.Room), .v (.int .i64 d.Fuse), .v (.bool d.Off)]]⟩)) ?_ ?_
      · refine Tri.loopF (fun (s594 : Int) => (⟨107, 0, ofRegs [(1, .v (.string (bs from_))), (2, .v (.string (bs to))), (3, .ptr 0 0), (7, .v (.bool y1)), (8, .v (.int .i64 a468)), (9, .v (.int .i64 s594))], [.var 24 [.sl (List.map encFile d.Files), .v (.int .i64 d.Room), .v (.int .i64 d.Fuse), .v (.bool d.Off)]]⟩ : St)) q591 (weak_fin _ rfl rfl rfl (.cons (.same rfl) (LeH.rest)) (.cons (.one (.same rfl)) (.cons (.one (.same rfl)) (.cons (.one (.same rfl)) (.cons (.one (.same rfl)) (.cons (.one (.same rfl)) (.cons (.one (.same rfl)) (.nil))))))) rfl rfl) ?_
        rintro a589 v595 hv r596
        have hv : law03_DiskWhole_l14 d a468 a589 = some v595 := hv
        unfold law03_DiskWhole_l14 at hv
        refine Tri.seqK ?_
        refine Tri.seqK ?_
        refine Tri.run (G := gm_law03_DiskWhole) tyOk mixed ?_
        conv => whnf
        refine Tri.cond rfl (fun c598 => ?_) (fun c598 => ?_)
        · replace hv := if_t c598 hv
          refine Tri.run (G := gm_law03_DiskWhole) tyOk mixed ?_
          conv => whnf
          refine Tri.seqK ?_
          refine Tri.block ?_
          refine Tri.seqK ?_
          refine Tri.run (G := gm_law03_DiskWhole) tyOk mixed ?_
          conv => whnf
          refine Draw.one 13 (.take 0 (.take 1 (.take 2 (.take 3 (.take 4 (.take 5 (.take 6 (.take 7 (.take 8 (.take 9 (.take 10 (.take 11 (.take 12 (.fin)))))))))))))) [] (by kernel_rfl) ?_
          conv => whnf
          replace hv := bind_some hv
          obtain ⟨x612, q613, hv⟩ := hv
          refine ⟨(ix_some q613).1, ?_⟩
          conv => whnf
          refine ⟨⟨_, map_get encFile (ix_some q613).2, ?_⟩⟩
          conv => whnf
          refine ⟨rfl, ?_⟩
          conv => whnf
          replace hv := bind_some hv
          obtain ⟨x614, q615, hv⟩ := hv
          refine ⟨(ix_some q615).1, ?_⟩
          conv => whnf
          refine ⟨⟨_, map_get encFile (ix_some q615).2, ?_⟩⟩
          conv => whnf
          refine ⟨rfl, ?_⟩
          conv => whnf
          refine ⟨⟨(decide (x612.Name = x614.Name)), bs_eq _ _, ?_⟩⟩
          conv => whnf
          refine Tri.cond rfl (fun c616 => ?_) (fun c616 => ?_)
          · replace hv := if_t c616 hv
            refine Tri.seqK ?_
            refine Tri.run (G := gm_law03_DiskWhole) tyOk mixed ?_
            conv => whnf
            refine Tri.run (G := gm_law03_DiskWhole) tyOk mixed ?_
            conv => whnf
            obtain rfl := Option.some.inj hv
            obtain rfl := r596 _ rfl
            exact Or.inl ⟨_, rfl, rfl, weak_fin _ rfl rfl rfl (LeH.rest) (.cons (.one (.same rfl)) (.nil)) rfl rfl⟩
          · replace hv := if_f c616 hv
            refine Tri.run (G := gm_law03_DiskWhole) tyOk mixed ?_
            conv => whnf
            refine Tri.run (G := gm_law03_DiskWhole) tyOk mixed ?_
            conv => whnf
            obtain rfl := Option.some.inj hv
            exact ⟨_, rfl, weak_fin _ rfl rfl rfl (.cons (.same rfl) (LeH.rest)) (.cons (.one (.same rfl)) (.cons (.one (.same rfl)) (.cons (.one (.same rfl)) (.cons (.one (.same rfl)) (.cons (.one (.same rfl)) (.cons (.one (.same rfl)) (.nil))))))) rfl rfl⟩
        · replace hv := if_f c598 hv
          refine Tri.run (G := gm_law03_DiskWhole) tyOk mixed ?_
          conv => whnf
          obtain rfl := Option.some.inj hv
          obtain rfl := r596 _ rfl
          exact Or.inr (⟨_, rfl, rfl, weak_fin _ rfl rfl rfl (.cons (.same rfl) (LeH.rest)) (.cons (.one (.same rfl)) (.cons (.one (.same rfl)) (.cons (.one (.same rfl)) (.cons (.one (.same rfl)) (.cons (.one (.same rfl)) (.nil)))))) rfl rfl⟩)
      · rintro ex S' (⟨v592, rfl, rfl, w617⟩ | ⟨v593, rfl, rfl, w617⟩)
        · dsimp only at hv
          conv => whnf
          obtain rfl := Option.some.inj hv
          obtain rfl := r475 _ rfl
          exact Or.inl ⟨_, rfl, rfl, Weak.trans w617 (weak_fin _ rfl rfl rfl (LeH.rest) (.cons (.one (.same rfl)) (.nil)) rfl rfl)⟩
        · dsimp only at hv
          conv => whnf
          refine Tri.weak w617 ?_
          refine Tri.run (G := gm_law03_DiskWhole) tyOk mixed ?_
          conv => whnf
          obtain rfl := Option.some.inj hv
          exact ⟨_, rfl, weak_fin _ rfl rfl rfl (.cons (.same rfl) (LeH.rest)) (.cons (.one (.same rfl)) (.cons (.one (.same rfl)) (.cons (.one (.same rfl)) (.cons (.one (.same rfl)) (.cons (.one (.same rfl)) (.nil)))))) rfl rfl⟩
    · replace hv := if_f c477 hv
      refine Tri.run (G := gm_law03_DiskWhole) tyOk mixed ?_
      conv => whnf
      obtain rfl := Option.some.inj hv
      obtain rfl := r475 _ rfl
      exact Or.inr (⟨_, rfl, rfl, weak_fin _ rfl rfl rfl (.cons (.same rfl) (LeH.rest)) (.cons (.one (.same rfl)) (.cons (.one (.same rfl)) (.cons (.one (.same rfl)) (.cons (.one (.same rfl)) (.nil))))) rfl rfl⟩)
  · rintro ex S' (⟨v471, rfl, rfl, w618⟩ | ⟨v472, rfl, rfl, w618⟩)
    · dsimp only at h
      conv => whnf
      refine fin_pre w618 ?_
      conv => whnf
      obtain rfl := Option.some.inj h
      rfl
    · dsimp only at h
      conv => whnf
      refine Tri.weak w618 ?_
      refine Tri.seqK ?_
      refine Tri.run (G := gm_law03_DiskWhole) tyOk mixed ?_
      conv => whnf
      replace h := bind_some h
      obtain ⟨y619, q620, h⟩ := h
      refine PureP.mono (disk_Read_walk d from_ y619 q620) ?_
      rintro _ rfl
      conv => whnf
      refine Tri.seqK ?_
      refine Tri.run (G := gm_law03_DiskWhole) tyOk mixed ?_
      conv => whnf
      replace h := bind_some h
      obtain ⟨y621, q622, h⟩ := h
      refine PureP.mono (disk_Rename_walk d from_ to y621 q622) ?_
      rintro _ rfl
      conv => whnf
      refine Tri.seqK ?_
      refine Tri.seqK ?_
      refine Tri.run (G := gm_law03_DiskWhole) tyOk mixed ?_
      conv => whnf
      refine Tri.cond rfl (fun c627 => ?_) (fun c627 => ?_)
      · replace h := if_t c627 h
        refine Tri.seqK ?_
        refine Tri.run (G := gm_law03_DiskWhole) tyOk mixed ?_
        conv => whnf
        refine Tri.seqK ?_
        refine Tri.run (G := gm_law03_DiskWhole) tyOk mixed ?_
        conv => whnf
        refine Tri.seqK ?_
        refine Tri.run (G := gm_law03_DiskWhole) tyOk mixed ?_
        conv => whnf
        refine cond_mk (fun c628 => ?_) (fun c628 => ?_)
        · replace h := if_t c628 h
          conv => whnf
          replace h := bind_some h
          obtain ⟨y629, q630, h⟩ := h
          refine PureP.mono (disk_Same_walk ({ Files := y621.1.Files, Room := y621.1.Room, Fuse := d.Fuse, Off := d.Off } : Disk) d y629 q630) ?_
          rintro _ rfl
          conv => whnf
          refine Tri.run (G := gm_law03_DiskWhole) tyOk mixed ?_
          conv => whnf
          refine fin_here ?_
          conv => whnf
          obtain rfl := Option.some.inj h
          rfl
        · replace h := if_f c628 h
          conv => whnf
          refine Tri.run (G := gm_law03_DiskWhole) tyOk mixed ?_
          conv => whnf
          refine fin_here ?_
          conv => whnf
          obtain rfl := Option.some.inj h
          rfl
      · replace h := if_f c627 h
        refine Tri.run (G := gm_law03_DiskWhole) tyOk mixed ?_
        conv => whnf
        refine Tri.seqK ?_
        refine Tri.run (G := gm_law03_DiskWhole) tyOk mixed ?_
        conv => whnf
        replace h := bind_some h
        obtain ⟨y631, q632, h⟩ := h
        refine PureP.mono (disk_Read_walk y621.1 to y631 q632) ?_
        rintro _ rfl
        conv => whnf
        refine Tri.seqK ?_
        refine Tri.run (G := gm_law03_DiskWhole) tyOk mixed ?_
        conv => whnf
        replace h := bind_some h
        obtain ⟨y633, q634, h⟩ := h
        refine PureP.mono (disk_Read_walk y621.1 from_ y633 q634) ?_
        rintro _ rfl
        conv => whnf
        refine Tri.seqK ?_
        refine Tri.run (G := gm_law03_DiskWhole) tyOk mixed ?_
        conv => whnf
        refine cond_mk (fun c635 => ?_) (fun c635 => ?_)
        · replace h := if_t c635 h
          conv => whnf
          refine cond_mk (fun c636 => ?_) (fun c636 => ?_)
          · replace h := if_t c636 h
            conv => whnf
            refine cond_mk (fun c637 => ?_) (fun c637 => ?_)
            · replace h := if_t c637 h
              conv => whnf
              refine ⟨⟨(decide (y631.1 = y619.1)), bs_eq _ _, ?_⟩⟩
              conv => whnf
              refine cond_mk (fun c638 => ?_) (fun c638 => ?_)
              · replace h := if_t c638 h
                conv => whnf
                refine ⟨⟨(decide (from_ = to)), bs_eq _ _, ?_⟩⟩
                conv => whnf
                refine cond_mk (fun c639 => ?_) (fun c639 => ?_)
                · replace h := if_t c639 h
                  conv => whnf
                  refine Tri.run (G := gm_law03_DiskWhole) tyOk mixed ?_
                  conv => whnf
                  refine fin_here ?_
                  conv => whnf
                  obtain rfl := Option.some.inj h
                  rfl
                · replace h := if_f c639 h
                  conv => whnf
                  refine Tri.run (G := gm_law03_DiskWhole) tyOk mixed ?_
                  conv => whnf
                  refine fin_here ?_
                  conv => whnf
                  obtain rfl := Option.some.inj h
                  rfl
              · replace h := if_f c638 h
                conv => whnf
                refine Tri.run (G := gm_law03_DiskWhole) tyOk mixed ?_
                conv => whnf
                refine fin_here ?_
                conv => whnf
                obtain rfl := Option.some.inj h
                rfl
            · replace h := if_f c637 h
              conv => whnf
              refine Tri.run (G := gm_law03_DiskWhole) tyOk mixed ?_
              conv => whnf
              refine fin_here ?_
              conv => whnf
              obtain rfl := Option.some.inj h
              rfl
          · replace h := if_f c636 h
            conv => whnf
            refine Tri.run (G := gm_law03_DiskWhole) tyOk mixed ?_
            conv => whnf
            refine fin_here ?_
            conv => whnf
            obtain rfl := Option.some.inj h
            rfl
        · replace h := if_f c635 h
          conv => whnf
          refine Tri.run (G := gm_law03_DiskWhole) tyOk mixed ?_
          conv => whnf
          refine fin_here ?_
          conv => whnf
          obtain rfl := Option.some.inj h
          rfl
noncomputable def law03_does_l4 (d : Disk) (a : Act) (a109 : Int) (a110 : (List Int)) : Option ((Int × (List Int)) ⊕ ((List Int))) :=
  if (decide (a109 < (d.Files.length : Int))) then
    need ((a110.length + 1) * 8 ≤ 140737488355328) <|
    some (.inl ((IntKind.i64.wrap (a109 + 1)), (a110 ++ [a.N])))
  else
    some (.inr a110)
noncomputable def law03_does (d : Disk) (a : Act) : Option (Disk × Int) :=
  if (decide (a.Kind = 1)) then
    (disk_Append d a.Name a.S).bind fun y64 =>
    some (y64.1, y64.2)
  else
    if (decide (a.Kind = 2)) then
      (disk_Sync d a.Name).bind fun y67 =>
      some (y67.1, y67.2)
    else
      if (decide (a.Kind = 3)) then
        (disk_Rename d a.Name a.S).bind fun y70 =>
        some (y70.1, y70.2)
      else
        if (decide (a.Kind = 4)) then
          (disk_Delete d a.Name).bind fun y73 =>
          some (y73.1, y73.2)
        else
          if (decide (a.Kind = 5)) then
            (loop (fun (s113 : Int × (List Int)) => law03_does_l4 d a s113.1 s113.2) ((0 : Int), ([] : (List Int)))).bind fun (y111 : (List Int)) =>
            (disk_Crash d y111).bind fun y120 =>
            some (y120, 0)
          else
            if (decide (a.Kind = 6)) then
              (disk_Arm d a.N).bind fun y123 =>
              some (y123, 0)
            else
              some (d, 0)
def gm_law03_does : Gm := ⟨tys, [], [], []⟩
theorem law03_does_walk (d : Disk) (a : Act) (r : Disk × Int) (h : law03_does d a = some r) : PureP Try.prog 27 [.agg [.sl (List.map encFile d.Files), .v (.int .i64 d.Room), .v (.int .i64 d.Fuse), .v (.bool d.Off)], .agg [.v (.int .i64 a.Kind), .v (.int .i64 a.N), .v (.string (bs a.Name)), .v (.string (bs a.S))]] (fun a => a = .tup [.agg [.sl (List.map encFile r.1.Files), .v (.int .i64 r.1.Room), .v (.int .i64 r.1.Fuse), .v (.bool r.1.Off)], .v (.int .i64 r.2)]) := by
  unfold law03_does at h
  refine pureW (G := gm_law03_does) tyOk Try.func27 rfl (by kernel_rfl) (by simp [Try.f27]) ?_
  refine Tri.seqK ?_
  refine Tri.run (G := gm_law03_does) tyOk mixed ?_
  conv => whnf
  refine Tri.seqK ?_
  refine Tri.seqK ?_
  refine Tri.run (G := gm_law03_does) tyOk mixed ?_
  conv => whnf
  refine Tri.block ?_
  refine Tri.seqK ?_
  refine Tri.run (G := gm_law03_does) tyOk mixed ?_
  conv => whnf
  refine Tri.cond rfl (fun c63 => ?_) (fun c63 => ?_)
  · replace h := if_t c63 h
    refine Tri.seqK ?_
    refine Tri.run (G := gm_law03_does) tyOk mixed ?_
    conv => whnf
    replace h := bind_some h
    obtain ⟨y64, q65, h⟩ := h
    refine PureP.mono (disk_Append_walk d a.Name a.S y64 q65) ?_
    rintro _ rfl
    conv => whnf
    refine Tri.run (G := gm_law03_does) tyOk mixed ?_
    conv => whnf
    refine fin_here ?_
    conv => whnf
    obtain rfl := Option.some.inj h
    rfl
  · replace h := if_f c63 h
    refine Tri.seqK ?_
    refine Tri.run (G := gm_law03_does) tyOk mixed ?_
    conv => whnf
    refine Tri.cond rfl (fun c66 => ?_) (fun c66 => ?_)
    · replace h := if_t c66 h
      refine Tri.seqK ?_
      refine Tri.run (G := gm_law03_does) tyOk mixed ?_
      conv => whnf
      replace h := bind_some h
      obtain ⟨y67, q68, h⟩ := h
      refine PureP.mono (disk_Sync_walk d a.Name y67 q68) ?_
      rintro _ rfl
      conv => whnf
      refine Tri.run (G := gm_law03_does) tyOk mixed ?_
      conv => whnf
      refine fin_here ?_
      conv => whnf
      obtain rfl := Option.some.inj h
      rfl
    · replace h := if_f c66 h
      refine Tri.seqK ?_
      refine Tri.run (G := gm_law03_does) tyOk mixed ?_
      conv => whnf
      refine Tri.cond rfl (fun c69 => ?_) (fun c69 => ?_)
      · replace h := if_t c69 h
        refine Tri.seqK ?_
        refine Tri.run (G := gm_law03_does) tyOk mixed ?_
        conv => whnf
        replace h := bind_some h
        obtain ⟨y70, q71, h⟩ := h
        refine PureP.mono (disk_Rename_walk d a.Name a.S y70 q71) ?_
        rintro _ rfl
        conv => whnf
        refine Tri.run (G := gm_law03_does) tyOk mixed ?_
        conv => whnf
        refine fin_here ?_
        conv => whnf
        obtain rfl := Option.some.inj h
        rfl
      · replace h := if_f c69 h
        refine Tri.seqK ?_
        refine Tri.run (G := gm_law03_does) tyOk mixed ?_
        conv => whnf
        refine Tri.cond rfl (fun c72 => ?_) (fun c72 => ?_)
        · replace h := if_t c72 h
          refine Tri.seqK ?_
          refine Tri.run (G := gm_law03_does) tyOk mixed ?_
          conv => whnf
          replace h := bind_some h
          obtain ⟨y73, q74, h⟩ := h
          refine PureP.mono (disk_Delete_walk d a.Name y73 q74) ?_
          rintro _ rfl
          conv => whnf
          refine Tri.run (G := gm_law03_does) tyOk mixed ?_
          conv => whnf
          refine fin_here ?_
          conv => whnf
          obtain rfl := Option.some.inj h
          rfl
        · replace h := if_f c72 h
          refine Tri.seqK ?_
          refine Tri.run (G := gm_law03_does) tyOk mixed ?_
          conv => whnf
          refine Tri.cond rfl (fun c75 => ?_) (fun c75 => ?_)
          · replace h := if_t c75 h
            refine Tri.seqK ?_
            refine Tri.run (G := gm_law03_does) tyOk mixed ?_
            conv => whnf
            refine Tri.seqK ?_
            refine Tri.seqK ?_
            refine Tri.run (G := gm_law03_does) tyOk mixed ?_
            conv => whnf
            refine Tri.block ?_
            replace h := bind_some h
            obtain ⟨y111, q112, h⟩ := h
            refine Tri.cut (fun ex S' => ex = (.exit 1) ∧ Weak S' ⟨70, 0, ofRegs [(2, .ptr 0 0), (4, .ptr 2 0), (6, .row 3 ((List.map (encI .i64) y111).length))], [.var 24 [.sl (List.map encFile d.Files), .v (.int .i64 d.Room), .v (.int .i64 d.Fuse), .v (.bool d.Off)], .gone, .var 24 [.v (.slice none 0 0), .v (.int .i64 0), .v (.int .i64 0), .v (.bool false)], .row 3 1 (List.map (encI .i64) y111)]⟩) ?_ ?_
            · refine Tri.loopF (fun (s113 : Int × (List Int)) => (⟨70, 0, ofRegs [(2, .ptr 0 0), (3, .ptr 1 0), (4, .ptr 2 0), (6, .row 3 ((List.map (encI .i64) s113.2).length)), (7, .v (.int .i64 s113.1))], [.var 24 [.sl (List.map encFile d.Files), .v (.int .i64 d.Room), .v (.int .i64 d.Fuse), .v (.bool d.Off)], .var 59 [.v (.int .i64 a.Kind), .v (.int .i64 a.N), .v (.string (bs a.Name)), .v (.string (bs a.S))], .var 24 [.v (.slice none 0 0), .v (.int .i64 0), .v (.int .i64 0), .v (.bool false)], .row 3 1 (List.map (encI .i64) s113.2)]⟩ : St)) q112 (Weak.trans (weak_nil 6 3 1 rfl) (weak_fin _ rfl rfl rfl (.cons (.same rfl) (.cons (.same rfl) (.cons (.same rfl) (.cons (.same rfl) (LeH.rest))))) (.cons (.one (.same rfl)) (.cons (.one (.same rfl)) (.cons (.one (.same rfl)) (.cons (.one (.same (show (.row 3 0 : AV) = (.row 3 ((List.map (encI .i64) []).length) : AV) from congrArg (AV.row 3) (by simp)))) (.cons (.one (.same rfl)) (.nil)))))) rfl rfl)) ?_
              rintro ⟨a109, a110⟩ v114 hv r115
              have hv : law03_does_l4 d a a109 a110 = some v114 := hv
              unfold law03_does_l4 at hv
              dsimp only
              refine Tri.seqK ?_
              refine Tri.seqK ?_
              refine Tri.run (G := gm_law03_does) tyOk mixed ?_
              conv => whnf
              refine ⟨⟨(d.Files.length : Int), (len_map _ _).symm, ?_⟩⟩
              conv => whnf
              refine Tri.cond rfl (fun c117 => ?_) (fun c117 => ?_)
              · replace hv := if_t c117 hv
                refine Tri.run (G := gm_law03_does) tyOk mixed ?_
                conv => whnf
                refine Tri.seqK ?_
                refine Tri.block ?_
                refine Tri.run (G := gm_law03_does) tyOk mixed ?_
                conv => whnf
                refine ⟨⟨List.map (encI .i64) [a.N], rfl, ?_⟩⟩
                conv => whnf
                refine ⟨rfl, ?_⟩
                conv => whnf
                refine ⟨rfl, ?_⟩
                conv => whnf
                replace hv := need_some hv
                obtain ⟨p118, hv⟩ := hv
                refine ⟨by simp only [List.length_map]; exact p118, ?_⟩
                conv => whnf
                refine ⟨⟨List.map (encI .i64) (a110 ++ [a.N]), map_app (encI .i64) _ _ rfl rfl, ?_⟩⟩
                conv => whnf
                refine Tri.run (G := gm_law03_does) tyOk mixed ?_
                conv => whnf
                obtain rfl := Option.some.inj hv
                exact ⟨_, rfl, weak_fin _ rfl rfl rfl (.cons (.same rfl) (.cons (.same rfl) (.cons (.same rfl) (.cons (.same rfl) (LeH.rest))))) (.cons (.one (.same rfl)) (.cons (.one (.same rfl)) (.cons (.one (.same rfl)) (.cons (.one (.same rfl)) (.cons (.one (.same rfl)) (.nil)))))) rfl rfl⟩
              · replace hv := if_f c117 hv
                refine Tri.run (G := gm_law03_does) tyOk mixed ?_
                conv => whnf
                obtain rfl := Option.some.inj hv
                obtain rfl := r115 _ rfl
                exact ⟨rfl, weak_fin _ rfl rfl rfl (.cons (.same rfl) (.cons (.gone) (.cons (.same rfl) (.cons (.same rfl) (LeH.rest))))) (.cons (.one (.same rfl)) (.cons (.one (.same rfl)) (.cons (.one (.same rfl)) (.nil)))) rfl rfl⟩
            · rintro ex S' ⟨rfl, w119⟩
              conv => whnf
              refine Tri.weak w119 ?_
              refine Tri.seqK ?_
              refine Tri.run (G := gm_law03_does) tyOk mixed ?_
              conv => whnf
              refine ⟨rfl, ?_⟩
              conv => whnf
              replace h := bind_some h
              obtain ⟨y120, q121, h⟩ := h
              refine PureP.mono (disk_Crash_walk d y111 y120 q121) ?_
              rintro _ rfl
              conv => whnf
              refine Tri.run (G := gm_law03_does) tyOk mixed ?_
              conv => whnf
              refine fin_here ?_
              conv => whnf
              obtain rfl := Option.some.inj h
              rfl
          · replace h := if_f c75 h
            refine Tri.seqK ?_
            refine Tri.run (G := gm_law03_does) tyOk mixed ?_
            conv => whnf
            refine Tri.cond rfl (fun c122 => ?_) (fun c122 => ?_)
            · replace h := if_t c122 h
              refine Tri.seqK ?_
              refine Tri.run (G := gm_law03_does) tyOk mixed ?_
              conv => whnf
              replace h := bind_some h
              obtain ⟨y123, q124, h⟩ := h
              refine PureP.mono (disk_Arm_walk d a.N y123 q124) ?_
              rintro _ rfl
              conv => whnf
              refine Tri.run (G := gm_law03_does) tyOk mixed ?_
              conv => whnf
              refine fin_here ?_
              conv => whnf
              obtain rfl := Option.some.inj h
              rfl
            · replace h := if_f c122 h
              refine Tri.run (G := gm_law03_does) tyOk mixed ?_
              conv => whnf
              refine Tri.seqK ?_
              refine Tri.run (G := gm_law03_does) tyOk mixed ?_
              conv => whnf
              refine Tri.run (G := gm_law03_does) tyOk mixed ?_
              conv => whnf
              refine fin_here ?_
              conv => whnf
              obtain rfl := Option.some.inj h
              rfl
noncomputable def law03_DiskApart (d : Disk) (a : Act) (other : Str) : Option (Bool) :=
  law03_shown.bind fun y1 =>
  if ((decide (a.Kind = 5)) || ((decide (other = a.Name)) || ((decide (a.Kind = 3)) && (decide (other = a.S))))) then
    some y1
  else
    (ref03_Find d other).bind fun y31 =>
    (law03_does d a).bind fun y33 =>
    (ref03_Find y33.1 other).bind fun y35 =>
    if y1 then
      if (decide (y31.1 = y35.1)) then
        some (y31.2 == y35.2)
      else
        some false
    else
      some false
def gm_law03_DiskApart : Gm := ⟨tys, [], [], []⟩
theorem law03_DiskApart_walk (d : Disk) (a : Act) (other : Str) (r : Bool) (h : law03_DiskApart d a other = some r) : PureP Try.prog 9 [.agg [.sl (List.map encFile d.Files), .v (.int .i64 d.Room), .v (.int .i64 d.Fuse), .v (.bool d.Off)], .agg [.v (.int .i64 a.Kind), .v (.int .i64 a.N), .v (.string (bs a.Name)), .v (.string (bs a.S))], .v (.string (bs other))] (fun a => a = .v (.bool r)) := by
  unfold law03_DiskApart at h
  refine pureW (G := gm_law03_DiskApart) tyOk Try.func9 rfl (by kernel_rfl) (by simp [Try.f9]) ?_
  refine Tri.seqK ?_
  refine Tri.run (G := gm_law03_DiskApart) tyOk mixed ?_
  conv => whnf
  refine Tri.seqK ?_
  refine Tri.run (G := gm_law03_DiskApart) tyOk mixed ?_
  conv => whnf
  replace h := bind_some h
  obtain ⟨y1, q2, h⟩ := h
  refine PureP.mono (law03_shown_walk y1 q2) ?_
  rintro _ rfl
  conv => whnf
  refine Tri.seqK ?_
  refine Tri.seqK ?_
  refine Tri.cut (fun ex S' => ex = .normal ∧ Weak S' ⟨65, 0, ofRegs [(2, .v (.string (bs other))), (3, .ptr 0 0), (4, .ptr 1 0), (7, .v (.bool y1)), (34, .v (.bool ((decide (a.Kind = 5)) || ((decide (other = a.Name)) || ((decide (a.Kind = 3)) && (decide (other = a.S)))))))], [.var 24 [.sl (List.map encFile d.Files), .v (.int .i64 d.Room), .v (.int .i64 d.Fuse), .v (.bool d.Off)], .var 59 [.v (.int .i64 a.Kind), .v (.int .i64 a.N), .v (.string (bs a.Name)), .v (.string (bs a.S))]]⟩) ?_ ?_
  · refine Tri.run (G := gm_law03_DiskApart) tyOk mixed ?_
    conv => whnf
    refine cond_mk (fun c26 => ?_) (fun c26 => ?_)
    · replace c26 : (decide (a.Kind = 5)) = true := c26
      conv => whnf
      exact ⟨rfl, weak_fin _ rfl rfl rfl (.cons (.same rfl) (.cons (.same rfl) (LeH.rest))) (.cons (.one (.same rfl)) (.cons (.one (.same rfl)) (.cons (.one (.same rfl)) (.cons (.one (.same rfl)) (.cons (.one (.same (show (.v (.bool true) : AV) = (.v (.bool ((decide (a.Kind = 5)) || ((decide (other = a.Name)) || ((decide (a.Kind = 3)) && (decide (other = a.S)))))) : AV) from by simp [c26]))) (.nil)))))) rfl rfl⟩
    · replace c26 : (decide (a.Kind = 5)) = false := c26
      conv => whnf
      refine ⟨⟨(decide (other = a.Name)), bs_eq _ _, ?_⟩⟩
      conv => whnf
      refine cond_mk (fun c27 => ?_) (fun c27 => ?_)
      · replace c27 : (decide (other = a.Name)) = true := c27
        conv => whnf
        exact ⟨rfl, weak_fin _ rfl rfl rfl (.cons (.same rfl) (.cons (.same rfl) (LeH.rest))) (.cons (.one (.same rfl)) (.cons (.one (.same rfl)) (.cons (.one (.same rfl)) (.cons (.one (.same rfl)) (.cons (.one (.same (show (.v (.bool true) : AV) = (.v (.bool ((decide (a.Kind = 5)) || ((decide (other = a.Name)) || ((decide (a.Kind = 3)) && (decide (other = a.S)))))) : AV) from by simp [c26, c27]))) (.nil)))))) rfl rfl⟩
      · replace c27 : (decide (other = a.Name)) = false := c27
        conv => whnf
        refine cond_mk (fun c28 => ?_) (fun c28 => ?_)
        · replace c28 : (decide (a.Kind = 3)) = true := c28
          conv => whnf
          refine ⟨⟨(decide (other = a.S)), bs_eq _ _, ?_⟩⟩
          conv => whnf
          exact ⟨rfl, weak_fin _ rfl rfl rfl (.cons (.same rfl) (.cons (.same rfl) (LeH.rest))) (.cons (.one (.same rfl)) (.cons (.one (.same rfl)) (.cons (.one (.same rfl)) (.cons (.one (.same rfl)) (.cons (.one (.same (show (.v (.bool (decide (other = a.S))) : AV) = (.v (.bool ((decide (a.Kind = 5)) || ((decide (other = a.Name)) || ((decide (a.Kind = 3)) && (decide (other = a.S)))))) : AV) from by simp [c26, c27, c28]))) (.nil)))))) rfl rfl⟩
        · replace c28 : (decide (a.Kind = 3)) = false := c28
          conv => whnf
          exact ⟨rfl, weak_fin _ rfl rfl rfl (.cons (.same rfl) (.cons (.same rfl) (LeH.rest))) (.cons (.one (.same rfl)) (.cons (.one (.same rfl)) (.cons (.one (.same rfl)) (.cons (.one (.same rfl)) (.cons (.one (.same (show (.v (.bool false) : AV) = (.v (.bool ((decide (a.Kind = 5)) || ((decide (other = a.Name)) || ((decide (a.Kind = 3)) && (decide (other = a.S)))))) : AV) from by simp [c26, c27, c28]))) (.nil)))))) rfl rfl⟩
  · rintro ex S' ⟨rfl, w29⟩
    conv => whnf
    refine Tri.weak w29 ?_
    refine Tri.cond rfl (fun c30 => ?_) (fun c30 => ?_)
    · replace h := if_t c30 h
      refine Tri.seqK ?_
      refine Tri.run (G := gm_law03_DiskApart) tyOk mixed ?_
      conv => whnf
      refine Tri.run (G := gm_law03_DiskApart) tyOk mixed ?_
      conv => whnf
      refine fin_here ?_
      conv => whnf
      obtain rfl := Option.some.inj h
      rfl
    · replace h := if_f c30 h
      refine Tri.run (G := gm_law03_DiskApart) tyOk mixed ?_
      conv => whnf
      refine Tri.seqK ?_
      refine Tri.run (G := gm_law03_DiskApart) tyOk mixed ?_
      conv => whnf
      replace h := bind_some h
      obtain ⟨y31, q32, h⟩ := h
      refine PureP.mono (ref03_Find_walk d other y31 q32) ?_
      rintro _ rfl
      conv => whnf
      refine Tri.seqK ?_
      refine Tri.run (G := gm_law03_DiskApart) tyOk mixed ?_
      conv => whnf
      replace h := bind_some h
      obtain ⟨y33, q34, h⟩ := h
      refine PureP.mono (law03_does_walk d a y33 q34) ?_
      rintro _ rfl
      conv => whnf
      refine Tri.seqK ?_
      refine Tri.run (G := gm_law03_DiskApart) tyOk mixed ?_
      conv => whnf
      replace h := bind_some h
      obtain ⟨y35, q36, h⟩ := h
      refine PureP.mono (ref03_Find_walk y33.1 other y35 q36) ?_
      rintro _ rfl
      conv => whnf
      refine Tri.seqK ?_
      refine Tri.run (G := gm_law03_DiskApart) tyOk mixed ?_
      conv => whnf
      refine cond_mk (fun c37 => ?_) (fun c37 => ?_)
      · replace h := if_t c37 h
        conv => whnf
        refine ⟨⟨(decide (y31.1 = y35.1)), eq_File _ _, ?_⟩⟩
        conv => whnf
        refine cond_mk (fun c38 => ?_) (fun c38 => ?_)
        · replace h := if_t c38 h
          conv => whnf
          refine Tri.run (G := gm_law03_DiskApart) tyOk mixed ?_
          conv => whnf
          refine fin_here ?_
          conv => whnf
          obtain rfl := Option.some.inj h
          rfl
        · replace h := if_f c38 h
          conv => whnf
          refine Tri.run (G := gm_law03_DiskApart) tyOk mixed ?_
          conv => whnf
          refine fin_here ?_
          conv => whnf
          obtain rfl := Option.some.inj h
          rfl
      · replace h := if_f c37 h
        conv => whnf
        refine Tri.run (G := gm_law03_DiskApart) tyOk mixed ?_
        conv => whnf
        refine fin_here ?_
        conv => whnf
        obtain rfl := Option.some.inj h
        rfl
noncomputable def law03_DiskArms_l2 (l : (List Str)) (y1 : Bool) (a805 : Int) (a806 : Int) (a807 : (List File)) (a808 : Int) (a809 : Int) (a810 : Bool) : Option ((Int × Int × (List File) × Int × Int × Bool) ⊕ ((Bool) ⊕ (Unit))) :=
  if ((decide (a806 < (l.length : Int))) && (decide (a806 < 100))) then
    (ix l a806).bind fun x903 =>
    if (decide ((x903.length : Int) > 1000)) then
      some (.inr (.inl y1))
    else
      (ix [[97], [98]] (Int.tmod a806 2)).bind fun x918 =>
      (disk_Append ({ Files := a807, Room := a808, Fuse := a809, Off := a810 } : Disk) x918 x903).bind fun y920 =>
      if a810 then
        if y1 then
          if (decide (y920.2 = 6)) then
            (disk_Same ({ Files := a807, Room := a808, Fuse := a809, Off := a810 } : Disk) y920.1).bind fun y940 =>
            some (.inr (.inl y940))
          else
            some (.inr (.inl false))
        else
          some (.inr (.inl false))
      else
        if ((!((decide (y920.2 = 0)) == (decide ((x903.length : Int) ≤ a805)))) || ((!(decide (y920.2 = 0))) && ((!(decide (y920.2 = 6))) || (!y920.1.Off)))) then
          some (.inr (.inl false))
        else
          some (.inl ((IntKind.i64.wrap (a805 - (x903.length : Int))), (IntKind.i64.wrap (a806 + 1)), y920.1.Files, y920.1.Room, y920.1.Fuse, y920.1.Off))
  else
    some (.inr (.inr ()))
noncomputable def law03_DiskArms (fuse : Int) (l : (List Str)) : Option (Bool) :=
  law03_shown.bind fun y1 =>
  if ((decide (fuse < 0)) || (decide (fuse > 10000))) then
    some y1
  else
    (disk_New 1048576).bind fun y15 =>
    (disk_Arm y15.1 fuse).bind fun y17 =>
    (loop (fun (s815 : Int × Int × (List File) × Int × Int × Bool) => law03_DiskArms_l2 l y1 s815.1 s815.2.1 s815.2.2.1 s815.2.2.2.1 s815.2.2.2.2.1 s815.2.2.2.2.2) (fuse, (0 : Int), y17.Files, y17.Room, y17.Fuse, y17.Off)).bind fun (y811 : (Bool) ⊕ (Unit)) =>
    match y811 with
    | (.inl v813) =>
      some v813
    | (.inr v814) =>
      some y1
def gm_law03_DiskArms : Gm := ⟨tys, [], [], []⟩
theorem law03_DiskArms_walk (fuse : Int) (l : (List Str)) (r : Bool) (h : law03_DiskArms fuse l = some r) : PureP Try.prog 5 [.v (.int .i64 fuse), .sl (List.map encS l)] (fun a => a = .v (.bool r)) := by
  unfold law03_DiskArms at h
  refine pureW (G := gm_law03_DiskArms) tyOk Try.func5 rfl (by kernel_rfl) (by simp [Try.f5]) ?_
  refine Tri.seqK ?_
  refine Tri.run (G := gm_law03_DiskArms) tyOk mixed ?_
  conv => whnf
  refine Tri.seqK ?_
  refine Tri.run (G := gm_law03_DiskArms) tyOk mixed ?_
  conv => whnf
  replace h := bind_some h
  obtain ⟨y1, q2, h⟩ := h
  refine PureP.mono (law03_shown_walk y1 q2) ?_
  rintro _ rfl
  conv => whnf
  refine Tri.seqK ?_
  refine Tri.seqK ?_
  refine Tri.cut (fun ex S' => ex = .normal ∧ Weak S' ⟨103, 0, ofRegs [(0, .v (.int .i64 fuse)), (1, .sl (List.map encS l)), (5, .v (.bool y1)), (18, .v (.bool ((decide (fuse < 0)) || (decide (fuse > 10000)))))], []⟩) ?_ ?_
  · refine Tri.run (G := gm_law03_DiskArms) tyOk mixed ?_
    conv => whnf
    refine cond_mk (fun c12 => ?_) (fun c12 => ?_)
    · replace c12 : (decide (fuse < 0)) = true := c12
      conv => whnf
      exact ⟨rfl, weak_fin _ rfl rfl rfl (LeH.rest) (.cons (.one (.same rfl)) (.cons (.one (.same rfl)) (.cons (.one (.same rfl)) (.cons (.one (.same (show (.v (.bool true) : AV) = (.v (.bool ((decide (fuse < 0)) || (decide (fuse > 10000)))) : AV) from by simp [c12]))) (.nil))))) rfl rfl⟩
    · replace c12 : (decide (fuse < 0)) = false := c12
      conv => whnf
      exact ⟨rfl, weak_fin _ rfl rfl rfl (LeH.rest) (.cons (.one (.same rfl)) (.cons (.one (.same rfl)) (.cons (.one (.same rfl)) (.cons (.one (.same (show (.v (.bool (decide (fuse > 10000))) : AV) = (.v (.bool ((decide (fuse < 0)) || (decide (fuse > 10000)))) : AV) from by simp [c12]))) (.nil))))) rfl rfl⟩
  · rintro ex S' ⟨rfl, w13⟩
    conv => whnf
    refine Tri.weak w13 ?_
    refine Tri.cond rfl (fun c14 => ?_) (fun c14 => ?_)
    · replace h := if_t c14 h
      refine Tri.seqK ?_
      refine Tri.run (G := gm_law03_DiskArms) tyOk mixed ?_
      conv => whnf
      refine Tri.run (G := gm_law03_DiskArms) tyOk mixed ?_
      conv => whnf
      refine fin_here ?_
      conv => whnf
      obtain rfl := Option.some.inj h
      rfl
    · replace h := if_f c14 h
      refine Tri.run (G := gm_law03_DiskArms) tyOk mixed ?_
      conv => whnf
      refine Tri.seqK ?_
      refine Tri.run (G := gm_law03_DiskArms) tyOk mixed ?_
      conv => whnf
      replace h := bind_some h
      obtain ⟨y15, q16, h⟩ := h
      refine PureP.mono (disk_New_walk 1048576 y15 q16) ?_
      rintro _ rfl
      conv => whnf
      refine Tri.seqK ?_
      refine Tri.run (G := gm_law03_DiskArms) tyOk mixed ?_
      conv => whnf
      replace h := bind_some h
      obtain ⟨y17, q18, h⟩ := h
      refine PureP.mono (disk_Arm_walk y15.1 fuse y17 q18) ?_
      rintro _ rfl
      conv => whnf
      refine Tri.seqK ?_
      refine Tri.run (G := gm_law03_DiskArms) tyOk mixed ?_
      conv => whnf
      refine Tri.seqK ?_
      refine Tri.seqK ?_
      refine Tri.run (G := gm_law03_DiskArms) tyOk mixed ?_
      conv => whnf
      refine Tri.block ?_
      replace h := bind_some h
      obtain ⟨y811, q812, h⟩ := h
      refine Tri.cut (fun ex S' => (∃ v813 : Bool, y811 = (.inl v813) ∧ ex = .ret ∧ Weak S' ⟨103, 0, ofRegs [(4, .v (.bool v813))], []⟩) ∨ (∃ v814 : Unit, y811 = (.inr v814) ∧ ex = (.exit 0) ∧ Weak S' ⟨103, 0, ofRegs [(5, .v (.bool y1))], []⟩)) ?_ ?_
      · refine Tri.loopF (fun (s815 : Int × Int × (List File) × Int × Int × Bool) => (⟨103, 0, ofRegs [(1, .sl (List.map encS l)), (5, .v (.bool y1)), (6, .ptr 0 0), (8, .v (.int .i64 s815.1)), (9, .v (.int .i64 s815.2.1))], [.var 24 [.sl (List.map encFile s815.2.2.1), .v (.int .i64 s815.2.2.2.1), .v (.int .i64 s815.2.2.2.2.1), .v (.bool s815.2.2.2.2.2)]]⟩ : St)) q812 (weak_fin _ rfl rfl rfl (.cons (.same rfl) (LeH.rest)) (.cons (.one (.same rfl)) (.cons (.one (.same rfl)) (.cons (.one (.same rfl)) (.cons (.one (.same rfl)) (.cons (.one (.same rfl)) (.nil)))))) rfl rfl) ?_
        rintro ⟨a805, a806, a807, a808, a809, a810⟩ v816 hv r817
        have hv : law03_DiskArms_l2 l y1 a805 a806 a807 a808 a809 a810 = some v816 := hv
        unfold law03_DiskArms_l2 at hv
        dsimp only
        refine Tri.seqK ?_
        refine Tri.seqK ?_
        refine Tri.cut (fun ex S' => ex = .normal ∧ Weak S' ⟨103, 0, ofRegs [(1, .sl (List.map encS l)), (5, .v (.bool y1)), (6, .ptr 0 0), (8, .v (.int .i64 a805)), (9, .v (.int .i64 a806)), (35, .v (.bool ((decide (a806 < (l.length : Int))) && (decide (a806 < 100)))))], [.var 24 [.sl (List.map encFile a807), .v (.int .i64 a808), .v (.int .i64 a809), .v (.bool a810)]]⟩) ?_ ?_
        · refine Tri.run (G := gm_law03_DiskArms) tyOk mixed ?_
          conv => whnf
          refine ⟨⟨(l.length : Int), (len_map _ _).symm, ?_⟩⟩
          conv => whnf
          refine cond_mk (fun c827 => ?_) (fun c827 => ?_)
          · replace c827 : (decide (a806 < (l.length : Int))) = true := c827
            conv => whnf
            exact ⟨rfl, weak_fin _ rfl rfl rfl (.cons (.same rfl) (LeH.rest)) (.cons (.one (.same rfl)) (.cons (.one (.same rfl)) (.cons (.one (.same rfl)) (.cons (.one (.same rfl)) (.cons (.one (.same rfl)) (.cons (.one (.same (show (.v (.bool (decide (a806 < 100))) : AV) = (.v (.bool ((decide (a806 < (l.length : Int))) && (decide (a806 < 100)))) : AV) from by simp [c827]))) (.nil))))))) rfl rfl⟩
          · replace c827 : (decide (a806 < (l.length : Int))) = false := c827
            conv => whnf
            exact ⟨rfl, weak_fin _ rfl rfl rfl (.cons (.same rfl) (LeH.rest)) (.cons (.one (.same rfl)) (.cons (.one (.same rfl)) (.cons (.one (.same rfl)) (.cons (.one (.same rfl)) (.cons (.one (.same rfl)) (.cons (.one (.same (show (.v (.bool false) : AV) = (.v (.bool ((decide (a806 < (l.length : Int))) && (decide (a806 < 100)))) : AV) from by simp [c827]))) (.nil))))))) rfl rfl⟩
        · rintro ex S' ⟨rfl, w828⟩
          conv => whnf
          refine Tri.weak w828 ?_
          refine Tri.cond rfl (fun c829 => ?_) (fun c829 => ?_)
          · replace hv := if_t c829 hv
            refine Tri.run (G := gm_law03_DiskArms) tyOk mixed ?_
            conv => whnf
            refine Tri.seqK ?_
            refine Tri.block ?_
            refine Tri.seqK ?_
            refine Tri.seqK ?_
            refine Tri.run (G := gm_law03_DiskArms) tyOk mixed ?_
            conv => whnf
            replace hv := bind_some hv
            obtain ⟨x903, q904, hv⟩ := hv
            refine ⟨(ix_some q904).1, ?_⟩
            conv => whnf
            refine ⟨⟨_, map_get encS (ix_some q904).2, ?_⟩⟩
            conv => whnf
            refine ⟨rfl, ?_⟩
            conv => whnf
            refine ⟨⟨(x903.length : Int), rfl, ?_⟩⟩
            conv => whnf
            refine Tri.cond rfl (fun c905 => ?_) (fun c905 => ?_)
            · replace hv := if_t c905 hv
              refine Tri.seqK ?_
              refine Tri.run (G := gm_law03_DiskArms) tyOk mixed ?_
              conv => whnf
              refine Tri.run (G := gm_law03_DiskArms) tyOk mixed ?_
              conv => whnf
              obtain rfl := Option.some.inj hv
              obtain rfl := r817 _ rfl
              exact Or.inl ⟨_, rfl, rfl, weak_fin _ rfl rfl rfl (LeH.rest) (.cons (.one (.same rfl)) (.nil)) rfl rfl⟩
            · replace hv := if_f c905 hv
              refine Tri.run (G := gm_law03_DiskArms) tyOk mixed ?_
              conv => whnf
              refine Tri.seqK ?_
              refine Tri.run (G := gm_law03_DiskArms) tyOk mixed ?_
              conv => whnf
              replace hv := bind_some hv
              obtain ⟨x918, q930, hv⟩ := hv
              replace hv := bind_some hv
              obtain ⟨y920, q931, hv⟩ := hv
              refine Draw.many 16 (.take 0 (.take 2 (.take 3 (.take 6 (.take 7 (.take 8 (.take 9 (.alt 1 (.take 4 (.alt 5 (.alt 10 (.take 11 (.take 12 (.take 13 (.alt 14 (.alt 15 (.fin) (.nil)) (.nil))))) (.alt 14 (.alt 10 (.take 11 (.take 12 (.take 13 (.alt 15 (.fin) (.nil))))) (.nil)) (.nil))) (.alt 14 (.alt 5 (.alt 10 (.take 11 (.take 12 (.take 13 (.alt 15 (.fin) (.nil))))) (.nil)) (.nil)) (.nil)))) (.alt 14 (.alt 1 (.take 4 (.alt 5 (.alt 10 (.take 11 (.take 12 (.take 13 (.alt 15 (.fin) (.nil))))) (.nil)) (.nil))) (.nil)) (.nil)))))))))) [1, 2, 3, 4, 5, 6] (⟨103, 0, ofRegs [(1, .sl (List.map encS l)), (5, .v (.bool y1)), (6, .ptr 0 0), (8, .v (.int .i64 a805)), (9, .v (.int .i64 a806)), (10, .ptr 1 0), (58, .v (.int .i64 y920.2))], [.var 24 [.sl (List.map encFile a807), .v (.int .i64 a808), .v (.int .i64 a809), .v (.bool a810)], .var 24 [.sl (List.map encFile y920.1.Files), .v (.int .i64 y920.1.Room), .v (.int .i64 y920.1.Fuse), .v (.bool y920.1.Off)]]⟩) (by kernel_rfl) ?_ ?_
              · conv => whnf
                refine ⟨by decide, ?_⟩
                conv => whnf
                refine ⟨(ix_some q904).1, ?_⟩
                conv => whnf
                refine ⟨⟨_, map_get encS (ix_some q904).2, ?_⟩⟩
                conv => whnf
                refine ⟨rfl, ?_⟩
                conv => whnf
                refine ⟨?_, ?_⟩
                · conv => whnf
                  refine ⟨⟨List.map encS [[97], [98]], rfl, ?_⟩⟩
                  conv => whnf
                  refine ⟨⟨rfl, (ix_lt q930).1, by have := ix_lt q930; simp only [List.length_map, List.length_set, List.length_cons, List.length_nil] at *; omega⟩, ?_⟩
                  conv => whnf
                  refine ⟨?_, ?_⟩
                  · conv => whnf
                    refine ⟨rfl, ?_⟩
                    conv => whnf
                    refine ⟨⟨_, map_get encS (ix_some q930).2, ?_⟩⟩
                    conv => whnf
                    refine ⟨?_, ?_⟩
                    · conv => whnf
                      refine PureP.mono (disk_Append_walk ({ Files := a807, Room := a808, Fuse := a809, Off := a810 } : Disk) x918 x903 y920 q931) ?_
                      rintro _ rfl
                      conv => whnf
                      refine ⟨?_, ?_⟩
                      · conv => whnf
                        refine ⟨?_, ?_⟩
                        · conv => whnf
                          exact Weak.trans (show Weak _ ⟨103, 0, ofRegs [(1, .sl (List.map encS l)), (5, .v (.bool y1)), (6, .ptr 0 0), (8, .v (.int .i64 a805)), (9, .v (.int .i64 a806)), (10, .ptr 2 0), (58, .v (.int .i64 y920.2))], [.var 24 [.sl (List.map encFile a807), .v (.int .i64 a808), .v (.int .i64 a809), .v (.bool a810)], .row 9 1 (List.map encS [[97], [98]]), .var 24 [.sl (List.map encFile y920.1.Files), .v (.int .i64 y920.1.Room), .v (.int .i64 y920.1.Fuse), .v (.bool y920.1.Off)]]⟩ from weak_fin _ rfl rfl rfl (.cons (.same rfl) (.cons (.same rfl) (.cons (.same rfl) (LeH.rest)))) (.cons (.one (.same rfl)) (.cons (.one (.same rfl)) (.cons (.one (.same rfl)) (.cons (.one (.same rfl)) (.cons (.one (.same rfl)) (.cons (.one (.same rfl)) (.cons (.one (.same rfl)) (.nil)))))))) rfl rfl) (weak_ren [0, 2] rfl rfl rfl rfl rfl rfl rfl rfl rfl (RenRs.get ⟨rfl, ⟨rfl, ⟨rfl, ⟨rfl, ⟨rfl, ⟨rfl, ⟨rfl, trivial⟩⟩⟩⟩⟩⟩⟩))
                        · conv => whnf
                          trivial
                      · conv => whnf
                        trivial
                    · conv => whnf
                      refine ⟨?_, ?_⟩
                      · conv => whnf
                        refine ⟨?_, ?_⟩
                        · conv => whnf
                          refine PureP.mono (disk_Append_walk ({ Files := a807, Room := a808, Fuse := a809, Off := a810 } : Disk) x918 x903 y920 q931) ?_
                          rintro _ rfl
                          conv => whnf
                          refine ⟨?_, ?_⟩
                          · conv => whnf
                            exact Weak.trans (show Weak _ ⟨103, 0, ofRegs [(1, .sl (List.map encS l)), (5, .v (.bool y1)), (6, .ptr 0 0), (8, .v (.int .i64 a805)), (9, .v (.int .i64 a806)), (10, .ptr 2 0), (58, .v (.int .i64 y920.2))], [.var 24 [.sl (List.map encFile a807), .v (.int .i64 a808), .v (.int .i64 a809), .v (.bool a810)], .row 9 1 (List.map encS [[97], [98]]), .var 24 [.sl (List.map encFile y920.1.Files), .v (.int .i64 y920.1.Room), .v (.int .i64 y920.1.Fuse), .v (.bool y920.1.Off)]]⟩ from weak_fin _ rfl rfl rfl (.cons (.same rfl) (.cons (.same rfl) (.cons (.same rfl) (LeH.rest)))) (.cons (.one (.same rfl)) (.cons (.one (.same rfl)) (.cons (.one (.same rfl)) (.cons (.one (.same rfl)) (.cons (.one (.same rfl)) (.cons (.one (.same rfl)) (.cons (.one (.same rfl)) (.nil)))))))) rfl rfl) (weak_ren [0, 2] rfl rfl rfl rfl rfl rfl rfl rfl rfl (RenRs.get ⟨rfl, ⟨rfl, ⟨rfl, ⟨rfl, ⟨rfl, ⟨rfl, ⟨rfl, trivial⟩⟩⟩⟩⟩⟩⟩))
                          · conv => whnf
                            trivial
                        · conv => whnf
                          trivial
                      · conv => whnf
                        trivial
                  · conv => whnf
                    refine ⟨?_, ?_⟩
                    · conv => whnf
                      refine ⟨?_, ?_⟩
                      · conv => whnf
                        refine ⟨rfl, ?_⟩
                        conv => whnf
                        refine ⟨⟨_, map_get encS (ix_some q930).2, ?_⟩⟩
                        conv => whnf
                        refine ⟨?_, ?_⟩
                        · conv => whnf
                          refine PureP.mono (disk_Append_walk ({ Files := a807, Room := a808, Fuse := a809, Off := a810 } : Disk) x918 x903 y920 q931) ?_
                          rintro _ rfl
                          conv => whnf
                          refine ⟨?_, ?_⟩
                          · conv => whnf
                            exact Weak.trans (show Weak _ ⟨103, 0, ofRegs [(1, .sl (List.map encS l)), (5, .v (.bool y1)), (6, .ptr 0 0), (8, .v (.int .i64 a805)), (9, .v (.int .i64 a806)), (10, .ptr 2 0), (58, .v (.int .i64 y920.2))], [.var 24 [.sl (List.map encFile a807), .v (.int .i64 a808), .v (.int .i64 a809), .v (.bool a810)], .row 9 1 (List.map encS [[97], [98]]), .var 24 [.sl (List.map encFile y920.1.Files), .v (.int .i64 y920.1.Room), .v (.int .i64 y920.1.Fuse), .v (.bool y920.1.Off)]]⟩ from weak_fin _ rfl rfl rfl (.cons (.same rfl) (.cons (.same rfl) (.cons (.same rfl) (LeH.rest)))) (.cons (.one (.same rfl)) (.cons (.one (.same rfl)) (.cons (.one (.same rfl)) (.cons (.one (.same rfl)) (.cons (.one (.same rfl)) (.cons (.one (.same rfl)) (.cons (.one (.same rfl)) (.nil)))))))) rfl rfl) (weak_ren [0, 2] rfl rfl rfl rfl rfl rfl rfl rfl rfl (RenRs.get ⟨rfl, ⟨rfl, ⟨rfl, ⟨rfl, ⟨rfl, ⟨rfl, ⟨rfl, trivial⟩⟩⟩⟩⟩⟩⟩))
                          · conv => whnf
                            trivial
                        · conv => whnf
                          trivial
                      · conv => whnf
                        trivial
                    · conv => whnf
                      trivial
                · conv => whnf
                  refine ⟨?_, ?_⟩
                  · conv => whnf
                    refine ⟨?_, ?_⟩
                    · conv => whnf
                      refine ⟨⟨List.map encS [[97], [98]], rfl, ?_⟩⟩
                      conv => whnf
                      refine ⟨⟨rfl, (ix_lt q930).1, by have := ix_lt q930; simp only [List.length_map, List.length_set, List.length_cons, List.length_nil] at *; omega⟩, ?_⟩
                      conv => whnf
                      refine ⟨?_, ?_⟩
                      · conv => whnf
                        refine ⟨rfl, ?_⟩
                        conv => whnf
                        refine ⟨⟨_, map_get encS (ix_some q930).2, ?_⟩⟩
                        conv => whnf
                        refine ⟨?_, ?_⟩
                        · conv => whnf
                          refine PureP.mono (disk_Append_walk ({ Files := a807, Room := a808, Fuse := a809, Off := a810 } : Disk) x918 x903 y920 q931) ?_
                          rintro _ rfl
                          conv => whnf
                          refine ⟨?_, ?_⟩
                          · conv => whnf
                            exact weak_fin _ rfl rfl rfl (.cons (.same rfl) (.cons (.same rfl) (LeH.rest))) (.cons (.one (.same rfl)) (.cons (.one (.same rfl)) (.cons (.one (.same rfl)) (.cons (.one (.same rfl)) (.cons (.one (.same rfl)) (.cons (.one (.same rfl)) (.cons (.one (.same rfl)) (.nil)))))))) rfl rfl
                          · conv => whnf
                            trivial
                        · conv => whnf
                          trivial
                      · conv => whnf
                        trivial
                    · conv => whnf
                      trivial
                  · conv => whnf
                    trivial
              · conv => whnf
                refine Tri.seqK ?_
                refine Tri.seqK ?_
                refine Tri.run (G := gm_law03_DiskArms) tyOk mixed ?_
                conv => whnf
                refine Tri.cond rfl (fun c937 => ?_) (fun c937 => ?_)
                · replace hv := if_t c937 hv
                  refine Tri.seqK ?_
                  refine Tri.run (G := gm_law03_DiskArms) tyOk mixed ?_
                  conv => whnf
                  refine cond_mk (fun c938 => ?_) (fun c938 => ?_)
                  · replace hv := if_t c938 hv
                    conv => whnf
                    refine cond_mk (fun c939 => ?_) (fun c939 => ?_)
                    · replace hv := if_t c939 hv
                      conv => whnf
                      replace hv := bind_some hv
                      obtain ⟨y940, q941, hv⟩ := hv
                      refine PureP.mono (disk_Same_walk ({ Files := a807, Room := a808, Fuse := a809, Off := a810 } : Disk) y920.1 y940 q941) ?_
                      rintro _ rfl
                      conv => whnf
                      refine Tri.run (G := gm_law03_DiskArms) tyOk mixed ?_
                      conv => whnf
                      obtain rfl := Option.some.inj hv
                      obtain rfl := r817 _ rfl
                      exact Or.inl ⟨_, rfl, rfl, weak_fin _ rfl rfl rfl (LeH.rest) (.cons (.one (.same rfl)) (.nil)) rfl rfl⟩
                    · replace hv := if_f c939 hv
                      conv => whnf
                      refine Tri.run (G := gm_law03_DiskArms) tyOk mixed ?_
                      conv => whnf
                      obtain rfl := Option.some.inj hv
                      obtain rfl := r817 _ rfl
                      exact Or.inl ⟨_, rfl, rfl, weak_fin _ rfl rfl rfl (LeH.rest) (.cons (.one (.same rfl)) (.nil)) rfl rfl⟩
                  · replace hv := if_f c938 hv
                    conv => whnf
                    refine Tri.run (G := gm_law03_DiskArms) tyOk mixed ?_
                    conv => whnf
                    obtain rfl := Option.some.inj hv
                    obtain rfl := r817 _ rfl
                    exact Or.inl ⟨_, rfl, rfl, weak_fin _ rfl rfl rfl (LeH.rest) (.cons (.one (.same rfl)) (.nil)) rfl rfl⟩
                · replace hv := if_f c937 hv
                  refine Tri.run (G := gm_law03_DiskArms) tyOk mixed ?_
                  conv => whnf
                  refine Tri.seqK ?_
                  refine Tri.seqK ?_
                  refine Tri.cut (fun ex S' => ex = .normal ∧ Weak S' ⟨103, 0, ofRegs [(1, .sl (List.map encS l)), (5, .v (.bool y1)), (6, .ptr 0 0), (8, .v (.int .i64 a805)), (9, .v (.int .i64 a806)), (10, .ptr 1 0), (93, .v (.bool ((!((decide (y920.2 = 0)) == (decide ((x903.length : Int) ≤ a805)))) || ((!(decide (y920.2 = 0))) && ((!(decide (y920.2 = 6))) || (!y920.1.Off))))))], [.var 24 [.sl (List.map encFile a807), .v (.int .i64 a808), .v (.int .i64 a809), .v (.bool a810)], .var 24 [.sl (List.map encFile y920.1.Files), .v (.int .i64 y920.1.Room), .v (.int .i64 y920.1.Fuse), .v (.bool y920.1.Off)]]⟩) ?_ ?_
                  · refine Tri.run (G := gm_law03_DiskArms) tyOk mixed ?_
                    conv => whnf
                    refine ⟨(ix_some q904).1, ?_⟩
                    conv => whnf
                    refine ⟨⟨_, map_get encS (ix_some q904).2, ?_⟩⟩
                    conv => whnf
                    refine ⟨rfl, ?_⟩
                    conv => whnf
                    refine ⟨⟨(x903.length : Int), rfl, ?_⟩⟩
                    conv => whnf
                    refine cond_mk (fun c965 => ?_) (fun c965 => ?_)
                    · replace c965 : (!((decide (y920.2 = 0)) == (decide ((x903.length : Int) ≤ a805)))) = true := c965
                      conv => whnf
                      exact ⟨rfl, weak_fin _ rfl rfl rfl (.cons (.same rfl) (.cons (.same rfl) (LeH.rest))) (.cons (.one (.same rfl)) (.cons (.one (.same rfl)) (.cons (.one (.same rfl)) (.cons (.one (.same rfl)) (.cons (.one (.same rfl)) (.cons (.one (.same rfl)) (.cons (.one (.same (show (.v (.bool true) : AV) = (.v (.bool ((!((decide (y920.2 = 0)) == (decide ((x903.length : Int) ≤ a805)))) || ((!(decide (y920.2 = 0))) && ((!(decide (y920.2 = 6))) || (!y920.1.Off))))) : AV) from by simp [c965]))) (.nil)))))))) rfl rfl⟩
                    · replace c965 : (!((decide (y920.2 = 0)) == (decide ((x903.length : Int) ≤ a805)))) = false := c965
                      conv => whnf
                      refine cond_mk (fun c966 => ?_) (fun c966 => ?_)
                      · replace c966 : (!(decide (y920.2 = 0))) = true := c966
                        conv => whnf
                        refine cond_mk (fun c967 => ?_) (fun c967 => ?_)
                        · replace c967 : (!(decide (y920.2 = 6))) = true := c967
                          conv => whnf
                          exact ⟨rfl, weak_fin _ rfl rfl rfl (.cons (.same rfl) (.cons (.same rfl) (LeH.rest))) (.cons (.one (.same rfl)) (.cons (.one (.same rfl)) (.cons (.one (.same rfl)) (.cons (.one (.same rfl)) (.cons (.one (.same rfl)) (.cons (.one (.same rfl)) (.cons (.one (.same (show (.v (.bool true) : AV) = (.v (.bool ((!((decide (y920.2 = 0)) == (decide ((x903.length : Int) ≤ a805)))) || ((!(decide (y920.2 = 0))) && ((!(decide (y920.2 = 6))) || (!y920.1.Off))))) : AV) from by simp [c965, c966, c967]))) (.nil)))))))) rfl rfl⟩
                        · replace c967 : (!(decide (y920.2 = 6))) = false := c967
                          conv => whnf
                          exact ⟨rfl, weak_fin _ rfl rfl rfl (.cons (.same rfl) (.cons (.same rfl) (LeH.rest))) (.cons (.one (.same rfl)) (.cons (.one (.same rfl)) (.cons (.one (.same rfl)) (.cons (.one (.same rfl)) (.cons (.one (.same rfl)) (.cons (.one (.same rfl)) (.cons (.one (.same (show (.v (.bool (!y920.1.Off)) : AV) = (.v (.bool ((!((decide (y920.2 = 0)) == (decide ((x903.length : Int) ≤ a805)))) || ((!(decide (y920.2 = 0))) && ((!(decide (y920.2 = 6))) || (!y920.1.Off))))) : AV) from by simp [c965, c966, c967]))) (.nil)))))))) rfl rfl⟩
                      · replace c966 : (!(decide (y920.2 = 0))) = false := c966
                        conv => whnf
                        exact ⟨rfl, weak_fin _ rfl rfl rfl (.cons (.same rfl) (.cons (.same rfl) (LeH.rest))) (.cons (.one (.same rfl)) (.cons (.one (.same rfl)) (.cons (.one (.same rfl)) (.cons (.one (.same rfl)) (.cons (.one (.same rfl)) (.cons (.one (.same rfl)) (.cons (.one (.same (show (.v (.bool false) : AV) = (.v (.bool ((!((decide (y920.2 = 0)) == (decide ((x903.length : Int) ≤ a805)))) || ((!(decide (y920.2 = 0))) && ((!(decide (y920.2 = 6))) || (!y920.1.Off))))) : AV) from by simp [c965, c966]))) (.nil)))))))) rfl rfl⟩
                  · rintro ex S' ⟨rfl, w968⟩
                    conv => whnf
                    refine Tri.weak w968 ?_
                    refine Tri.cond rfl (fun c969 => ?_) (fun c969 => ?_)
                    · replace hv := if_t c969 hv
                      refine Tri.seqK ?_
                      refine Tri.run (G := gm_law03_DiskArms) tyOk mixed ?_
                      conv => whnf
                      refine Tri.run (G := gm_law03_DiskArms) tyOk mixed ?_
                      conv => whnf
                      obtain rfl := Option.some.inj hv
                      obtain rfl := r817 _ rfl
                      exact Or.inl ⟨_, rfl, rfl, weak_fin _ rfl rfl rfl (LeH.rest) (.cons (.one (.same rfl)) (.nil)) rfl rfl⟩
                    · replace hv := if_f c969 hv
                      refine Tri.run (G := gm_law03_DiskArms) tyOk mixed ?_
                      conv => whnf
                      refine Tri.seqK ?_
                      refine Tri.run (G := gm_law03_DiskArms) tyOk mixed ?_
                      conv => whnf
                      refine ⟨(ix_some q904).1, ?_⟩
                      conv => whnf
                      refine ⟨⟨_, map_get encS (ix_some q904).2, ?_⟩⟩
                      conv => whnf
                      refine ⟨rfl, ?_⟩
                      conv => whnf
                      refine ⟨⟨(x903.length : Int), rfl, ?_⟩⟩
                      conv => whnf
                      refine Tri.run (G := gm_law03_DiskArms) tyOk mixed ?_
                      conv => whnf
                      refine Tri.run (G := gm_law03_DiskArms) tyOk mixed ?_
                      conv => whnf
                      obtain rfl := Option.some.inj hv
                      exact ⟨_, rfl, weak_fin _ rfl rfl rfl (.cons (.same rfl) (LeH.rest)) (.cons (.one (.same rfl)) (.cons (.one (.same rfl)) (.cons (.one (.same rfl)) (.cons (.one (.same rfl)) (.cons (.one (.same rfl)) (.nil)))))) rfl rfl⟩
          · replace hv := if_f c829 hv
            refine Tri.run (G := gm_law03_DiskArms) tyOk mixed ?_
            conv => whnf
            obtain rfl := Option.some.inj hv
            obtain rfl := r817 _ rfl
            exact Or.inr (⟨_, rfl, rfl, weak_fin _ rfl rfl rfl (LeH.rest) (.cons (.one (.same rfl)) (.nil)) rfl rfl⟩)
      · rintro ex S' (⟨v813, rfl, rfl, w970⟩ | ⟨v814, rfl, rfl, w970⟩)
        · dsimp only at h
          conv => whnf
          refine fin_pre w970 ?_
          conv => whnf
          obtain rfl := Option.some.inj h
          rfl
        · dsimp only at h
          conv => whnf
          refine Tri.weak w970 ?_
          refine Tri.seqK ?_
          refine Tri.run (G := gm_law03_DiskArms) tyOk mixed ?_
          conv => whnf
          refine Tri.run (G := gm_law03_DiskArms) tyOk mixed ?_
          conv => whnf
          refine fin_here ?_
          conv => whnf
          obtain rfl := Option.some.inj h
          rfl
noncomputable def law03_DiskRoom_l26 (y902 : Disk × Int) (a946 : Int) (a947 : Int) : Option ((Int × Int) ⊕ (Int)) :=
  if (decide (a947 < (y902.1.Files.length : Int))) then
    (ix y902.1.Files a947).bind fun x957 =>
    some (.inl ((IntKind.i64.wrap ((IntKind.i64.wrap (a946 + (x957.Safe.length : Int))) + (x957.Wait.length : Int))), (IntKind.i64.wrap (a947 + 1))))
  else
    some (.inr a946)
noncomputable def law03_DiskRoom_l22 (room : Int) (l : (List Act)) (a802 : Int) (a803 : (List File)) (a804 : Int) (a805 : Int) (a806 : Bool) : Option ((Int × (List File) × Int × Int × Bool) ⊕ ((Unit) ⊕ (Unit))) :=
  if ((decide (a802 < (l.length : Int))) && (decide (a802 < 300))) then
    (ix l a802).bind fun x900 =>
    (law03_does ({ Files := a803, Room := a804, Fuse := a805, Off := a806 } : Disk) x900).bind fun y902 =>
    (loop (fun (s950 : Int × Int) => law03_DiskRoom_l26 y902 s950.1 s950.2) (y902.1.Room, (0 : Int))).bind fun (y948 : Int) =>
    if ((!(decide (y948 = room))) || (decide (y902.1.Room < 0))) then
      some (.inr (.inl ()))
    else
      some (.inl ((IntKind.i64.wrap (a802 + 1)), y902.1.Files, y902.1.Room, y902.1.Fuse, y902.1.Off))
  else
    some (.inr (.inr ()))
noncomputable def law03_DiskRoom (room : Int) (l : (List Act)) : Option (Bool) :=
  law03_shown.bind fun y1 =>
  if ((decide (room < 0)) || (decide (room > 1048576))) then
    some y1
  else
    (disk_New room).bind fun y15 =>
    if (!(decide (y15.2 = 0))) then
      some false
    else
      (loop (fun (s811 : Int × (List File) × Int × Int × Bool) => law03_DiskRoom_l22 room l s811.1 s811.2.1 s811.2.2.1 s811.2.2.2.1 s811.2.2.2.2) ((0 : Int), y15.1.Files, y15.1.Room, y15.1.Fuse, y15.1.Off)).bind fun (y807 : (Unit) ⊕ (Unit)) =>
      match y807 with
      | (.inl v809) =>
        some false
      | (.inr v810) =>
        some y1
def gm_law03_DiskRoom : Gm := ⟨tys, [], [], []⟩
theorem law03_DiskRoom_walk (room : Int) (l : (List Act)) (r : Bool) (h : law03_DiskRoom room l = some r) : PureP Try.prog 7 [.v (.int .i64 room), .sl (List.map encAct l)] (fun a => a = .v (.bool r)) := by
  unfold law03_DiskRoom at h
  refine pureW (G := gm_law03_DiskRoom) tyOk Try.func7 rfl (by kernel_rfl) (by simp [Try.f7]) ?_
  refine Tri.seqK ?_
  refine Tri.run (G := gm_law03_DiskRoom) tyOk mixed ?_
  conv => whnf
  refine Tri.seqK ?_
  refine Tri.run (G := gm_law03_DiskRoom) tyOk mixed ?_
  conv => whnf
  replace h := bind_some h
  obtain ⟨y1, q2, h⟩ := h
  refine PureP.mono (law03_shown_walk y1 q2) ?_
  rintro _ rfl
  conv => whnf
  refine Tri.seqK ?_
  refine Tri.seqK ?_
  refine Tri.cut (fun ex S' => ex = .normal ∧ Weak S' ⟨80, 0, ofRegs [(0, .v (.int .i64 room)), (1, .sl (List.map encAct l)), (5, .v (.bool y1)), (17, .v (.bool ((decide (room < 0)) || (decide (room > 1048576)))))], []⟩) ?_ ?_
  · refine Tri.run (G := gm_law03_DiskRoom) tyOk mixed ?_
    conv => whnf
    refine cond_mk (fun c12 => ?_) (fun c12 => ?_)
    · replace c12 : (decide (room < 0)) = true := c12
      conv => whnf
      exact ⟨rfl, weak_fin _ rfl rfl rfl (LeH.rest) (.cons (.one (.same rfl)) (.cons (.one (.same rfl)) (.cons (.one (.same rfl)) (.cons (.one (.same (show (.v (.bool true) : AV) = (.v (.bool ((decide (room < 0)) || (decide (room > 1048576)))) : AV) from by simp [c12]))) (.nil))))) rfl rfl⟩
    · replace c12 : (decide (room < 0)) = false := c12
      conv => whnf
      exact ⟨rfl, weak_fin _ rfl rfl rfl (LeH.rest) (.cons (.one (.same rfl)) (.cons (.one (.same rfl)) (.cons (.one (.same rfl)) (.cons (.one (.same (show (.v (.bool (decide (room > 1048576))) : AV) = (.v (.bool ((decide (room < 0)) || (decide (room > 1048576)))) : AV) from by simp [c12]))) (.nil))))) rfl rfl⟩
  · rintro ex S' ⟨rfl, w13⟩
    conv => whnf
    refine Tri.weak w13 ?_
    refine Tri.cond rfl (fun c14 => ?_) (fun c14 => ?_)
    · replace h := if_t c14 h
      refine Tri.seqK ?_
      refine Tri.run (G := gm_law03_DiskRoom) tyOk mixed ?_
      conv => whnf
      refine Tri.run (G := gm_law03_DiskRoom) tyOk mixed ?_
      conv => whnf
      refine fin_here ?_
      conv => whnf
      obtain rfl := Option.some.inj h
      rfl
    · replace h := if_f c14 h
      refine Tri.run (G := gm_law03_DiskRoom) tyOk mixed ?_
      conv => whnf
      refine Tri.seqK ?_
      refine Tri.run (G := gm_law03_DiskRoom) tyOk mixed ?_
      conv => whnf
      replace h := bind_some h
      obtain ⟨y15, q16, h⟩ := h
      refine PureP.mono (disk_New_walk room y15 q16) ?_
      rintro _ rfl
      conv => whnf
      refine Tri.seqK ?_
      refine Tri.seqK ?_
      refine Tri.run (G := gm_law03_DiskRoom) tyOk mixed ?_
      conv => whnf
      refine Tri.cond rfl (fun c18 => ?_) (fun c18 => ?_)
      · replace h := if_t c18 h
        refine Tri.seqK ?_
        refine Tri.run (G := gm_law03_DiskRoom) tyOk mixed ?_
        conv => whnf
        refine Tri.run (G := gm_law03_DiskRoom) tyOk mixed ?_
        conv => whnf
        refine fin_here ?_
        conv => whnf
        obtain rfl := Option.some.inj h
        rfl
      · replace h := if_f c18 h
        refine Tri.run (G := gm_law03_DiskRoom) tyOk mixed ?_
        conv => whnf
        refine Tri.seqK ?_
        refine Tri.seqK ?_
        refine Tri.run (G := gm_law03_DiskRoom) tyOk mixed ?_
        conv => whnf
        refine Tri.block ?_
        replace h := bind_some h
        obtain ⟨y807, q808, h⟩ := h
        refine Tri.cut (fun ex S' => (∃ v809 : Unit, y807 = (.inl v809) ∧ ex = .ret ∧ Weak S' ⟨80, 0, ofRegs [(4, .v (.bool false))], []⟩) ∨ (∃ v810 : Unit, y807 = (.inr v810) ∧ ex = (.exit 0) ∧ Weak S' ⟨80, 0, ofRegs [(5, .v (.bool y1))], []⟩)) ?_ ?_
        · refine Tri.loopF (fun (s811 : Int × (List File) × Int × Int × Bool) => (⟨80, 0, ofRegs [(0, .v (.int .i64 room)), (1, .sl (List.map encAct l)), (5, .v (.bool y1)), (6, .ptr 0 0), (8, .v (.int .i64 s811.1))], [.var 24 [.sl (List.map encFile s811.2.1), .v (.int .i64 s811.2.2.1), .v (.int .i64 s811.2.2.2.1), .v (.bool s811.2.2.2.2)]]⟩ : St)) q808 (weak_fin _ rfl rfl rfl (.cons (.same rfl) (LeH.rest)) (.cons (.one (.same rfl)) (.cons (.one (.same rfl)) (.cons (.one (.same rfl)) (.cons (.one (.same rfl)) (.cons (.one (.same rfl)) (.nil)))))) rfl rfl) ?_
          rintro ⟨a802, a803, a804, a805, a806⟩ v812 hv r813
          have hv : law03_DiskRoom_l22 room l a802 a803 a804 a805 a806 = some v812 := hv
          unfold law03_DiskRoom_l22 at hv
          dsimp only
          refine Tri.seqK ?_
          refine Tri.seqK ?_
          refine Tri.cut (fun ex S' => ex = .normal ∧ Weak S' ⟨80, 0, ofRegs [(0, .v (.int .i64 room)), (1, .sl (List.map encAct l)), (5, .v (.bool y1)), (6, .ptr 0 0), (8, .v (.int .i64 a802)), (33, .v (.bool ((decide (a802 < (l.length : Int))) && (decide (a802 < 300)))))], [.var 24 [.sl (List.map encFile a803), .v (.int .i64 a804), .v (.int .i64 a805), .v (.bool a806)]]⟩) ?_ ?_
          · refine Tri.run (G := gm_law03_DiskRoom) tyOk mixed ?_
            conv => whnf
            refine ⟨⟨(l.length : Int), (len_map _ _).symm, ?_⟩⟩
            conv => whnf
            refine cond_mk (fun c823 => ?_) (fun c823 => ?_)
            · replace c823 : (decide (a802 < (l.length : Int))) = true := c823
              conv => whnf
              exact ⟨rfl, weak_fin _ rfl rfl rfl (.cons (.same rfl) (LeH.rest)) (.cons (.one (.same rfl)) (.cons (.one (.same rfl)) (.cons (.one (.same rfl)) (.cons (.one (.same rfl)) (.cons (.one (.same rfl)) (.cons (.one (.same (show (.v (.bool (decide (a802 < 300))) : AV) = (.v (.bool ((decide (a802 < (l.length : Int))) && (decide (a802 < 300)))) : AV) from by simp [c823]))) (.nil))))))) rfl rfl⟩
            · replace c823 : (decide (a802 < (l.length : Int))) = false := c823
              conv => whnf
              exact ⟨rfl, weak_fin _ rfl rfl rfl (.cons (.same rfl) (LeH.rest)) (.cons (.one (.same rfl)) (.cons (.one (.same rfl)) (.cons (.one (.same rfl)) (.cons (.one (.same rfl)) (.cons (.one (.same rfl)) (.cons (.one (.same (show (.v (.bool false) : AV) = (.v (.bool ((decide (a802 < (l.length : Int))) && (decide (a802 < 300)))) : AV) from by simp [c823]))) (.nil))))))) rfl rfl⟩
          · rintro ex S' ⟨rfl, w824⟩
            conv => whnf
            refine Tri.weak w824 ?_
            refine Tri.cond rfl (fun c825 => ?_) (fun c825 => ?_)
            · replace hv := if_t c825 hv
              refine Tri.run (G := gm_law03_DiskRoom) tyOk mixed ?_
              conv => whnf
              refine Tri.seqK ?_
              refine Tri.block ?_
              refine Tri.seqK ?_
              refine Tri.run (G := gm_law03_DiskRoom) tyOk mixed ?_
              conv => whnf
              refine Draw.one 10 (.take 1 (.take 2 (.take 3 (.take 4 (.alt 0 (.alt 5 (.take 6 (.take 7 (.take 8 (.alt 9 (.fin) (.nil))))) (.nil)) (.nil)))))) [0, 1, 2, 3, 4, 5, 6] (by kernel_rfl) ?_
              conv => whnf
              replace hv := bind_some hv
              obtain ⟨x900, q901, hv⟩ := hv
              refine ⟨(ix_some q901).1, ?_⟩
              conv => whnf
              refine ⟨⟨_, map_get encAct (ix_some q901).2, ?_⟩⟩
              conv => whnf
              refine ⟨rfl, ?_⟩
              conv => whnf
              refine ⟨?_, ?_⟩
              · conv => whnf
                refine ⟨?_, ?_⟩
                · conv => whnf
                  replace hv := bind_some hv
                  obtain ⟨y902, q903, hv⟩ := hv
                  refine PureP.mono (law03_does_walk ({ Files := a803, Room := a804, Fuse := a805, Off := a806 } : Disk) x900 y902 q903) ?_
                  rintro _ rfl
                  conv => whnf
                  refine ⟨?_, ?_⟩
                  · conv => whnf
                    refine Tri.seqK ?_
                    refine Tri.run (G := gm_law03_DiskRoom) tyOk mixed ?_
                    conv => whnf
                    refine Tri.seqK ?_
                    refine Tri.seqK ?_
                    refine Tri.run (G := gm_law03_DiskRoom) tyOk mixed ?_
                    conv => whnf
                    refine Tri.block ?_
                    replace hv := bind_some hv
                    obtain ⟨y948, q949, hv⟩ := hv
                    refine Tri.cut (fun ex S' => ex = (.exit 2) ∧ Weak S' ⟨80, 0, ofRegs [(0, .v (.int .i64 room)), (1, .sl (List.map encAct l)), (5, .v (.bool y1)), (6, .ptr 0 0), (8, .v (.int .i64 a802)), (9, .v (.int .i64 y948))], [.var 24 [.sl (List.map encFile y902.1.Files), .v (.int .i64 y902.1.Room), .v (.int .i64 y902.1.Fuse), .v (.bool y902.1.Off)]]⟩) ?_ ?_
                    · refine Tri.loopF (fun (s950 : Int × Int) => (⟨80, 0, ofRegs [(0, .v (.int .i64 room)), (1, .sl (List.map encAct l)), (5, .v (.bool y1)), (6, .ptr 0 0), (8, .v (.int .i64 a802)), (9, .v (.int .i64 s950.1)), (10, .v (.int .i64 s950.2))], [.var 24 [.sl (List.map encFile y902.1.Files), .v (.int .i64 y902.1.Room), .v (.int .i64 y902.1.Fuse), .v (.bool y902.1.Off)]]⟩ : St)) q949 (weak_fin _ rfl rfl rfl (.cons (.same rfl) (LeH.rest)) (.cons (.one (.same rfl)) (.cons (.one (.same rfl)) (.cons (.one (.same rfl)) (.cons (.one (.same rfl)) (.cons (.one (.same rfl)) (.cons (.one (.same rfl)) (.cons (.one (.same rfl)) (.nil)))))))) rfl rfl) ?_
                      rintro ⟨a946, a947⟩ v951 hv r952
                      have hv : law03_DiskRoom_l26 y902 a946 a947 = some v951 := hv
                      unfold law03_DiskRoom_l26 at hv
                      dsimp only
                      refine Tri.seqK ?_
                      refine Tri.seqK ?_
                      refine Tri.run (G := gm_law03_DiskRoom) tyOk mixed ?_
                      conv => whnf
                      refine ⟨⟨(y902.1.Files.length : Int), (len_map _ _).symm, ?_⟩⟩
                      conv => whnf
                      refine Tri.cond rfl (fun c954 => ?_) (fun c954 => ?_)
                      · replace hv := if_t c954 hv
                        refine Tri.run (G := gm_law03_DiskRoom) tyOk mixed ?_
                        conv => whnf
                        refine Tri.seqK ?_
                        refine Tri.block ?_
                        refine Tri.run (G := gm_law03_DiskRoom) tyOk mixed ?_
                        conv => whnf
                        refine Draw.one 18 (.take 0 (.take 1 (.take 2 (.take 3 (.take 4 (.take 5 (.take 6 (.take 7 (.take 8 (.take 9 (.take 10 (.take 11 (.take 12 (.take 13 (.take 14 (.take 15 (.take 16 (.take 17 (.fin))))))))))))))))))) [] (by kernel_rfl) ?_
                        conv => whnf
                        replace hv := bind_some hv
                        obtain ⟨x957, q958, hv⟩ := hv
                        refine ⟨(ix_some q958).1, ?_⟩
                        conv => whnf
                        refine ⟨⟨_, map_get encFile (ix_some q958).2, ?_⟩⟩
                        conv => whnf
                        refine ⟨rfl, ?_⟩
                        conv => whnf
                        refine ⟨⟨(x957.Safe.length : Int), rfl, ?_⟩⟩
                        conv => whnf
                        refine ⟨(ix_some q958).1, ?_⟩
                        conv => whnf
                        refine ⟨⟨_, map_get encFile (ix_some q958).2, ?_⟩⟩
                        conv => whnf
                        refine ⟨rfl, ?_⟩
                        conv => whnf
                        refine ⟨⟨(x957.Wait.length : Int), rfl, ?_⟩⟩
                        conv => whnf
                        refine Tri.run (G := gm_law03_DiskRoom) tyOk mixed ?_
                        conv => whnf
                        obtain rfl := Option.some.inj hv
                        exact ⟨_, rfl, weak_fin _ rfl rfl rfl (.cons (.same rfl) (LeH.rest)) (.cons (.one (.same rfl)) (.cons (.one (.same rfl)) (.cons (.one (.same rfl)) (.cons (.one (.same rfl)) (.cons (.one (.same rfl)) (.cons (.one (.same rfl)) (.cons (.one (.same rfl)) (.nil)))))))) rfl rfl⟩
                      · replace hv := if_f c954 hv
                        refine Tri.run (G := gm_law03_DiskRoom) tyOk mixed ?_
                        conv => whnf
                        obtain rfl := Option.some.inj hv
                        obtain rfl := r952 _ rfl
                        exact ⟨rfl, weak_fin _ rfl rfl rfl (.cons (.same rfl) (LeH.rest)) (.cons (.one (.same rfl)) (.cons (.one (.same rfl)) (.cons (.one (.same rfl)) (.cons (.one (.same rfl)) (.cons (.one (.same rfl)) (.cons (.one (.same rfl)) (.nil))))))) rfl rfl⟩
                    · rintro ex S' ⟨rfl, w959⟩
                      conv => whnf
                      refine Tri.weak w959 ?_
                      refine Tri.seqK ?_
                      refine Tri.cut (fun ex S' => ex = .normal ∧ Weak S' ⟨80, 0, ofRegs [(0, .v (.int .i64 room)), (1, .sl (List.map encAct l)), (5, .v (.bool y1)), (6, .ptr 0 0), (8, .v (.int .i64 a802)), (78, .v (.bool ((!(decide (y948 = room))) || (decide (y902.1.Room < 0)))))], [.var 24 [.sl (List.map encFile y902.1.Files), .v (.int .i64 y902.1.Room), .v (.int .i64 y902.1.Fuse), .v (.bool y902.1.Off)]]⟩) ?_ ?_
                      · refine Tri.run (G := gm_law03_DiskRoom) tyOk mixed ?_
                        conv => whnf
                        refine cond_mk (fun c963 => ?_) (fun c963 => ?_)
                        · replace c963 : (!(decide (y948 = room))) = true := c963
                          conv => whnf
                          exact ⟨rfl, weak_fin _ rfl rfl rfl (.cons (.same rfl) (LeH.rest)) (.cons (.one (.same rfl)) (.cons (.one (.same rfl)) (.cons (.one (.same rfl)) (.cons (.one (.same rfl)) (.cons (.one (.same rfl)) (.cons (.one (.same (show (.v (.bool true) : AV) = (.v (.bool ((!(decide (y948 = room))) || (decide (y902.1.Room < 0)))) : AV) from by simp [c963]))) (.nil))))))) rfl rfl⟩
                        · replace c963 : (!(decide (y948 = room))) = false := c963
                          conv => whnf
                          exact ⟨rfl, weak_fin _ rfl rfl rfl (.cons (.same rfl) (LeH.rest)) (.cons (.one (.same rfl)) (.cons (.one (.same rfl)) (.cons (.one (.same rfl)) (.cons (.one (.same rfl)) (.cons (.one (.same rfl)) (.cons (.one (.same (show (.v (.bool (decide (y902.1.Room < 0))) : AV) = (.v (.bool ((!(decide (y948 = room))) || (decide (y902.1.Room < 0)))) : AV) from by simp [c963]))) (.nil))))))) rfl rfl⟩
                      · rintro ex S' ⟨rfl, w964⟩
                        conv => whnf
                        refine Tri.weak w964 ?_
                        refine Tri.cond rfl (fun c965 => ?_) (fun c965 => ?_)
                        · replace hv := if_t c965 hv
                          refine Tri.seqK ?_
                          refine Tri.run (G := gm_law03_DiskRoom) tyOk mixed ?_
                          conv => whnf
                          refine Tri.run (G := gm_law03_DiskRoom) tyOk mixed ?_
                          conv => whnf
                          obtain rfl := Option.some.inj hv
                          obtain rfl := r813 _ rfl
                          exact Or.inl ⟨_, rfl, rfl, weak_fin _ rfl rfl rfl (LeH.rest) (.cons (.one (.same rfl)) (.nil)) rfl rfl⟩
                        · replace hv := if_f c965 hv
                          refine Tri.run (G := gm_law03_DiskRoom) tyOk mixed ?_
                          conv => whnf
                          refine Tri.run (G := gm_law03_DiskRoom) tyOk mixed ?_
                          conv => whnf
                          obtain rfl := Option.some.inj hv
                          exact ⟨_, rfl, weak_fin _ rfl rfl rfl (.cons (.same rfl) (LeH.rest)) (.cons (.one (.same rfl)) (.cons (.one (.same rfl)) (.cons (.one (.same rfl)) (.cons (.one (.same rfl)) (.cons (.one (.same rfl)) (.nil)))))) rfl rfl⟩
                  · conv => whnf
                    trivial
                · conv => whnf
                  trivial
              · conv => whnf
                trivial
            · replace hv := if_f c825 hv
              refine Tri.run (G := gm_law03_DiskRoom) tyOk mixed ?_
              conv => whnf
              obtain rfl := Option.some.inj hv
              obtain rfl := r813 _ rfl
              exact Or.inr (⟨_, rfl, rfl, weak_fin _ rfl rfl rfl (LeH.rest) (.cons (.one (.same rfl)) (.nil)) rfl rfl⟩)
        · rintro ex S' (⟨v809, rfl, rfl, w966⟩ | ⟨v810, rfl, rfl, w966⟩)
          · dsimp only at h
            conv => whnf
            refine fin_pre w966 ?_
            conv => whnf
            obtain rfl := Option.some.inj h
            rfl
          · dsimp only at h
            conv => whnf
            refine Tri.weak w966 ?_
            refine Tri.seqK ?_
            refine Tri.run (G := gm_law03_DiskRoom) tyOk mixed ?_
            conv => whnf
            refine Tri.run (G := gm_law03_DiskRoom) tyOk mixed ?_
            conv => whnf
            refine fin_here ?_
            conv => whnf
            obtain rfl := Option.some.inj h
            rfl
noncomputable def law03_DiskLasts_l2 (with_ : DiskLastsIn) (a128 : Int) (a129 : (List File)) (a130 : Int) (a131 : Int) (a132 : Bool) : Option ((Int × (List File) × Int × Int × Bool) ⊕ ((List File) × Int × Int × Bool)) :=
  if ((decide (a128 < (with_.L.length : Int))) && (decide (a128 < 300))) then
    (ix with_.L a128).bind fun x154 =>
    (law03_does ({ Files := a129, Room := a130, Fuse := a131, Off := a132 } : Disk) x154).bind fun y156 =>
    some (.inl ((IntKind.i64.wrap (a128 + 1)), y156.1.Files, y156.1.Room, y156.1.Fuse, y156.1.Off))
  else
    some (.inr (a129, a130, a131, a132))
noncomputable def law03_DiskLasts_l4 (with_ : DiskLastsIn) (a576 : Int) (a577 : (List File)) (a578 : Int) (a579 : Int) (a580 : Bool) : Option ((Int × (List File) × Int × Int × Bool) ⊕ ((List File) × Int × Int × Bool)) :=
  if ((decide (a576 < (with_.More.length : Int))) && (decide (a576 < 300))) then
    (
      (
        (ix with_.More a576).bind fun x650 =>
        if (!(decide (x650.Kind = 3))) then
          some (!(decide (x650.Kind = 4)))
        else
          some false).bind fun (y648 : Bool) =>
      if y648 then
        (ix with_.More a576).bind fun x659 =>
        (law03_does ({ Files := a577, Room := a578, Fuse := a579, Off := a580 } : Disk) x659).bind fun y661 =>
        some (y661.1.Files, y661.1.Room, y661.1.Fuse, y661.1.Off)
      else
        some (a577, a578, a579, a580)).bind fun (y640 : (List File) × Int × Int × Bool) =>
    some (.inl ((IntKind.i64.wrap (a576 + 1)), y640.1, y640.2.1, y640.2.2.1, y640.2.2.2))
  else
    some (.inr (a577, a578, a579, a580))
noncomputable def law03_DiskLasts (with_ : DiskLastsIn) : Option (Bool) :=
  law03_shown.bind fun y1 =>
  (disk_New with_.Room).bind fun y3 =>
  if (!(decide (y3.2 = 0))) then
    some y1
  else
    (loop (fun (s135 : Int × (List File) × Int × Int × Bool) => law03_DiskLasts_l2 with_ s135.1 s135.2.1 s135.2.2.1 s135.2.2.2.1 s135.2.2.2.2) ((0 : Int), y3.1.Files, y3.1.Room, y3.1.Fuse, y3.1.Off)).bind fun (y133 : (List File) × Int × Int × Bool) =>
    (disk_Sync ({ Files := y133.1, Room := y133.2.1, Fuse := y133.2.2.1, Off := y133.2.2.2 } : Disk) with_.Name).bind fun y159 =>
    if (!(decide (y159.2 = 0))) then
      some y1
    else
      (disk_Read y159.1 with_.Name).bind fun y163 =>
      (loop (fun (s583 : Int × (List File) × Int × Int × Bool) => law03_DiskLasts_l4 with_ s583.1 s583.2.1 s583.2.2.1 s583.2.2.2.1 s583.2.2.2.2) ((0 : Int), y159.1.Files, y159.1.Room, y159.1.Fuse, y159.1.Off)).bind fun (y581 : (List File) × Int × Int × Bool) =>
      (disk_Read ({ Files := y581.1, Room := y581.2.1, Fuse := y581.2.2.1, Off := y581.2.2.2 } : Disk) with_.Name).bind fun y665 =>
      if y1 then
        if (decide (y665.2 = 0)) then
          if (decide ((y665.1.length : Int) ≥ (y163.1.length : Int))) then
            need (0 ≤ (0 : Int) ∧ 0 ≤ (y163.1.length : Int) ∧ (y163.1.length : Int) ≤ (y665.1.length : Int)) <|
            some (decide ((cut y665.1 0 (y163.1.length : Int)) = y163.1))
          else
            some false
        else
          some false
      else
        some false
def gm_law03_DiskLasts : Gm := ⟨tys, [], [], []⟩
theorem law03_DiskLasts_walk (with_ : DiskLastsIn) (r : Bool) (h : law03_DiskLasts with_ = some r) : PureP Try.prog 8 [.agg [.v (.int .i64 with_.Room), .sl (List.map encAct with_.L), .v (.string (bs with_.Name)), .sl (List.map encAct with_.More)]] (fun a => a = .v (.bool r)) := by
  unfold law03_DiskLasts at h
  refine pureW (G := gm_law03_DiskLasts) tyOk Try.func8 rfl (by kernel_rfl) (by simp [Try.f8]) ?_
  refine Tri.seqK ?_
  refine Tri.run (G := gm_law03_DiskLasts) tyOk mixed ?_
  conv => whnf
  refine Tri.seqK ?_
  refine Tri.run (G := gm_law03_DiskLasts) tyOk mixed ?_
  conv => whnf
  refine Tri.seqK ?_
  refine Tri.run (G := gm_law03_DiskLasts) tyOk mixed ?_
  conv => whnf
  refine Tri.seqK ?_
  refine Tri.run (G := gm_law03_DiskLasts) tyOk mixed ?_
  conv => whnf
  refine Tri.seqK ?_
  refine Tri.run (G := gm_law03_DiskLasts) tyOk mixed ?_
  conv => whnf
  refine Tri.seqK ?_
  refine Tri.run (G := gm_law03_DiskLasts) tyOk mixed ?_
  conv => whnf
  replace h := bind_some h
  obtain ⟨y1, q2, h⟩ := h
  refine PureP.mono (law03_shown_walk y1 q2) ?_
  rintro _ rfl
  conv => whnf
  refine Tri.seqK ?_
  refine Tri.run (G := gm_law03_DiskLasts) tyOk mixed ?_
  conv => whnf
  replace h := bind_some h
  obtain ⟨y3, q4, h⟩ := h
  refine PureP.mono (disk_New_walk with_.Room y3 q4) ?_
  rintro _ rfl
  conv => whnf
  refine Tri.seqK ?_
  refine Tri.seqK ?_
  refine Tri.run (G := gm_law03_DiskLasts) tyOk mixed ?_
  conv => whnf
  refine Tri.cond rfl (fun c6 => ?_) (fun c6 => ?_)
  · replace h := if_t c6 h
    refine Tri.seqK ?_
    refine Tri.run (G := gm_law03_DiskLasts) tyOk mixed ?_
    conv => whnf
    refine Tri.run (G := gm_law03_DiskLasts) tyOk mixed ?_
    conv => whnf
    refine fin_here ?_
    conv => whnf
    obtain rfl := Option.some.inj h
    rfl
  · replace h := if_f c6 h
    refine Tri.run (G := gm_law03_DiskLasts) tyOk mixed ?_
    conv => whnf
    refine Tri.seqK ?_
    refine Tri.seqK ?_
    refine Tri.run (G := gm_law03_DiskLasts) tyOk mixed ?_
    conv => whnf
    refine Tri.block ?_
    replace h := bind_some h
    obtain ⟨y133, q134, h⟩ := h
    refine Tri.cut (fun ex S' => ex = (.exit 0) ∧ Weak S' ⟨127, 0, ofRegs [(5, .v (.string (bs with_.Name))), (6, .sl (List.map encAct with_.More)), (7, .v (.bool y1)), (8, .ptr 1 0)], [.gone, .var 24 [.sl (List.map encFile y133.1), .v (.int .i64 y133.2.1), .v (.int .i64 y133.2.2.1), .v (.bool y133.2.2.2)]]⟩) ?_ ?_
    · refine Tri.loopF (fun (s135 : Int × (List File) × Int × Int × Bool) => (⟨127, 0, ofRegs [(4, .sl (List.map encAct with_.L)), (5, .v (.string (bs with_.Name))), (6, .sl (List.map encAct with_.More)), (7, .v (.bool y1)), (8, .ptr 1 0), (10, .v (.int .i64 s135.1))], [.gone, .var 24 [.sl (List.map encFile s135.2.1), .v (.int .i64 s135.2.2.1), .v (.int .i64 s135.2.2.2.1), .v (.bool s135.2.2.2.2)]]⟩ : St)) q134 (weak_fin _ rfl rfl rfl (.cons (.gone) (.cons (.same rfl) (LeH.rest))) (.cons (.one (.same rfl)) (.cons (.one (.same rfl)) (.cons (.one (.same rfl)) (.cons (.one (.same rfl)) (.cons (.one (.same rfl)) (.cons (.one (.same rfl)) (.nil))))))) rfl rfl) ?_
      rintro ⟨a128, a129, a130, a131, a132⟩ v136 hv r137
      have hv : law03_DiskLasts_l2 with_ a128 a129 a130 a131 a132 = some v136 := hv
      unfold law03_DiskLasts_l2 at hv
      dsimp only
      refine Tri.seqK ?_
      refine Tri.seqK ?_
      refine Tri.cut (fun ex S' => ex = .normal ∧ Weak S' ⟨127, 0, ofRegs [(4, .sl (List.map encAct with_.L)), (5, .v (.string (bs with_.Name))), (6, .sl (List.map encAct with_.More)), (7, .v (.bool y1)), (8, .ptr 1 0), (10, .v (.int .i64 a128)), (41, .v (.bool ((decide (a128 < (with_.L.length : Int))) && (decide (a128 < 300)))))], [.gone, .var 24 [.sl (List.map encFile a129), .v (.int .i64 a130), .v (.int .i64 a131), .v (.bool a132)]]⟩) ?_ ?_
      · refine Tri.run (G := gm_law03_DiskLasts) tyOk mixed ?_
        conv => whnf
        refine ⟨⟨(with_.L.length : Int), (len_map _ _).symm, ?_⟩⟩
        conv => whnf
        refine cond_mk (fun c147 => ?_) (fun c147 => ?_)
        · replace c147 : (decide (a128 < (with_.L.length : Int))) = true := c147
          conv => whnf
          exact ⟨rfl, weak_fin _ rfl rfl rfl (.cons (.same rfl) (.cons (.same rfl) (LeH.rest))) (.cons (.one (.same rfl)) (.cons (.one (.same rfl)) (.cons (.one (.same rfl)) (.cons (.one (.same rfl)) (.cons (.one (.same rfl)) (.cons (.one (.same rfl)) (.cons (.one (.same (show (.v (.bool (decide (a128 < 300))) : AV) = (.v (.bool ((decide (a128 < (with_.L.length : Int))) && (decide (a128 < 300)))) : AV) from by simp [c147]))) (.nil)))))))) rfl rfl⟩
        · replace c147 : (decide (a128 < (with_.L.length : Int))) = false := c147
          conv => whnf
          exact ⟨rfl, weak_fin _ rfl rfl rfl (.cons (.same rfl) (.cons (.same rfl) (LeH.rest))) (.cons (.one (.same rfl)) (.cons (.one (.same rfl)) (.cons (.one (.same rfl)) (.cons (.one (.same rfl)) (.cons (.one (.same rfl)) (.cons (.one (.same rfl)) (.cons (.one (.same (show (.v (.bool false) : AV) = (.v (.bool ((decide (a128 < (with_.L.length : Int))) && (decide (a128 < 300)))) : AV) from by simp [c147]))) (.nil)))))))) rfl rfl⟩
      · rintro ex S' ⟨rfl, w148⟩
        conv => whnf
        refine Tri.weak w148 ?_
        refine Tri.cond rfl (fun c149 => ?_) (fun c149 => ?_)
        · replace hv := if_t c149 hv
          refine Tri.run (G := gm_law03_DiskLasts) tyOk mixed ?_
          conv => whnf
          refine Tri.seqK ?_
          refine Tri.block ?_
          refine Tri.run (G := gm_law03_DiskLasts) tyOk mixed ?_
          conv => whnf
          refine Draw.one 10 (.take 1 (.take 2 (.take 3 (.take 4 (.alt 0 (.alt 5 (.take 6 (.take 7 (.take 8 (.alt 9 (.fin) (.nil))))) (.nil)) (.nil)))))) [1, 2, 3, 4, 5, 6, 7] (by kernel_rfl) ?_
          conv => whnf
          replace hv := bind_some hv
          obtain ⟨x154, q155, hv⟩ := hv
          refine ⟨(ix_some q155).1, ?_⟩
          conv => whnf
          refine ⟨⟨_, map_get encAct (ix_some q155).2, ?_⟩⟩
          conv => whnf
          refine ⟨rfl, ?_⟩
          conv => whnf
          refine ⟨?_, ?_⟩
          · conv => whnf
            refine ⟨?_, ?_⟩
            · conv => whnf
              replace hv := bind_some hv
              obtain ⟨y156, q157, hv⟩ := hv
              refine PureP.mono (law03_does_walk ({ Files := a129, Room := a130, Fuse := a131, Off := a132 } : Disk) x154 y156 q157) ?_
              rintro _ rfl
              conv => whnf
              refine ⟨?_, ?_⟩
              · conv => whnf
                refine Tri.run (G := gm_law03_DiskLasts) tyOk mixed ?_
                conv => whnf
                obtain rfl := Option.some.inj hv
                exact ⟨_, rfl, weak_fin _ rfl rfl rfl (.cons (.same rfl) (.cons (.same rfl) (LeH.rest))) (.cons (.one (.same rfl)) (.cons (.one (.same rfl)) (.cons (.one (.same rfl)) (.cons (.one (.same rfl)) (.cons (.one (.same rfl)) (.cons (.one (.same rfl)) (.nil))))))) rfl rfl⟩
              · conv => whnf
                trivial
            · conv => whnf
              trivial
          · conv => whnf
            trivial
        · replace hv := if_f c149 hv
          refine Tri.run (G := gm_law03_DiskLasts) tyOk mixed ?_
          conv => whnf
          obtain rfl := Option.some.inj hv
          obtain rfl := r137 _ rfl
          exact ⟨rfl, weak_fin _ rfl rfl rfl (.cons (.same rfl) (.cons (.same rfl) (LeH.rest))) (.cons (.one (.same rfl)) (.cons (.one (.same rfl)) (.cons (.one (.same rfl)) (.cons (.one (.same rfl)) (.nil))))) rfl rfl⟩
    · rintro ex S' ⟨rfl, w158⟩
      conv => whnf
      refine Tri.weak w158 ?_
      refine Tri.seqK ?_
      refine Tri.run (G := gm_law03_DiskLasts) tyOk mixed ?_
      conv => whnf
      replace h := bind_some h
      obtain ⟨y159, q160, h⟩ := h
      refine PureP.mono (disk_Sync_walk ({ Files := y133.1, Room := y133.2.1, Fuse := y133.2.2.1, Off := y133.2.2.2 } : Disk) with_.Name y159 q160) ?_
      rintro _ rfl
      conv => whnf
      refine Tri.seqK ?_
      refine Tri.seqK ?_
      refine Tri.run (G := gm_law03_DiskLasts) tyOk mixed ?_
      conv => whnf
      refine Tri.cond rfl (fun c162 => ?_) (fun c162 => ?_)
      · replace h := if_t c162 h
        refine Tri.seqK ?_
        refine Tri.run (G := gm_law03_DiskLasts) tyOk mixed ?_
        conv => whnf
        refine Tri.run (G := gm_law03_DiskLasts) tyOk mixed ?_
        conv => whnf
        refine fin_here ?_
        conv => whnf
        obtain rfl := Option.some.inj h
        rfl
      · replace h := if_f c162 h
        refine Tri.run (G := gm_law03_DiskLasts) tyOk mixed ?_
        conv => whnf
        refine Tri.seqK ?_
        refine Tri.run (G := gm_law03_DiskLasts) tyOk mixed ?_
        conv => whnf
        replace h := bind_some h
        obtain ⟨y163, q164, h⟩ := h
        refine PureP.mono (disk_Read_walk y159.1 with_.Name y163 q164) ?_
        rintro _ rfl
        conv => whnf
        refine Tri.seqK ?_
        refine Tri.seqK ?_
        refine Tri.run (G := gm_law03_DiskLasts) tyOk mixed ?_
        conv => whnf
        refine Tri.block ?_
        replace h := bind_some h
        obtain ⟨y581, q582, h⟩ := h
        refine Tri.cut (fun ex S' => ex = (.exit 2) ∧ Weak S' ⟨127, 0, ofRegs [(5, .v (.string (bs with_.Name))), (7, .v (.bool y1)), (8, .ptr 1 0), (12, .v (.string (bs y163.1)))], [.gone, .var 24 [.sl (List.map encFile y581.1), .v (.int .i64 y581.2.1), .v (.int .i64 y581.2.2.1), .v (.bool y581.2.2.2)]]⟩) ?_ ?_
        · refine Tri.loopF (fun (s583 : Int × (List File) × Int × Int × Bool) => (⟨127, 0, ofRegs [(5, .v (.string (bs with_.Name))), (6, .sl (List.map encAct with_.More)), (7, .v (.bool y1)), (8, .ptr 1 0), (12, .v (.string (bs y163.1))), (14, .v (.int .i64 s583.1))], [.gone, .var 24 [.sl (List.map encFile s583.2.1), .v (.int .i64 s583.2.2.1), .v (.int .i64 s583.2.2.2.1), .v (.bool s583.2.2.2.2)]]⟩ : St)) q582 (weak_fin _ rfl rfl rfl (.cons (.same rfl) (.cons (.same rfl) (LeH.rest))) (.cons (.one (.same rfl)) (.cons (.one (.same rfl)) (.cons (.one (.same rfl)) (.cons (.one (.same rfl)) (.cons (.one (.same rfl)) (.cons (.one (.same rfl)) (.nil))))))) rfl rfl) ?_
          rintro ⟨a576, a577, a578, a579, a580⟩ v584 hv r585
          have hv : law03_DiskLasts_l4 with_ a576 a577 a578 a579 a580 = some v584 := hv
          unfold law03_DiskLasts_l4 at hv
          dsimp only
          refine Tri.seqK ?_
          refine Tri.seqK ?_
          refine Tri.cut (fun ex S' => ex = .normal ∧ Weak S' ⟨127, 0, ofRegs [(5, .v (.string (bs with_.Name))), (6, .sl (List.map encAct with_.More)), (7, .v (.bool y1)), (8, .ptr 1 0), (12, .v (.string (bs y163.1))), (14, .v (.int .i64 a576)), (75, .v (.bool ((decide (a576 < (with_.More.length : Int))) && (decide (a576 < 300)))))], [.gone, .var 24 [.sl (List.map encFile a577), .v (.int .i64 a578), .v (.int .i64 a579), .v (.bool a580)]]⟩) ?_ ?_
          · refine Tri.run (G := gm_law03_DiskLasts) tyOk mixed ?_
            conv => whnf
            refine ⟨⟨(with_.More.length : Int), (len_map _ _).symm, ?_⟩⟩
            conv => whnf
            refine cond_mk (fun c595 => ?_) (fun c595 => ?_)
            · replace c595 : (decide (a576 < (with_.More.length : Int))) = true := c595
              conv => whnf
              exact ⟨rfl, weak_fin _ rfl rfl rfl (.cons (.same rfl) (.cons (.same rfl) (LeH.rest))) (.cons (.one (.same rfl)) (.cons (.one (.same rfl)) (.cons (.one (.same rfl)) (.cons (.one (.same rfl)) (.cons (.one (.same rfl)) (.cons (.one (.same rfl)) (.cons (.one (.same (show (.v (.bool (decide (a576 < 300))) : AV) = (.v (.bool ((decide (a576 < (with_.More.length : Int))) && (decide (a576 < 300)))) : AV) from by simp [c595]))) (.nil)))))))) rfl rfl⟩
            · replace c595 : (decide (a576 < (with_.More.length : Int))) = false := c595
              conv => whnf
              exact ⟨rfl, weak_fin _ rfl rfl rfl (.cons (.same rfl) (.cons (.same rfl) (LeH.rest))) (.cons (.one (.same rfl)) (.cons (.one (.same rfl)) (.cons (.one (.same rfl)) (.cons (.one (.same rfl)) (.cons (.one (.same rfl)) (.cons (.one (.same rfl)) (.cons (.one (.same (show (.v (.bool false) : AV) = (.v (.bool ((decide (a576 < (with_.More.length : Int))) && (decide (a576 < 300)))) : AV) from by simp [c595]))) (.nil)))))))) rfl rfl⟩
          · rintro ex S' ⟨rfl, w596⟩
            conv => whnf
            refine Tri.weak w596 ?_
            refine Tri.cond rfl (fun c597 => ?_) (fun c597 => ?_)
            · replace hv := if_t c597 hv
              refine Tri.run (G := gm_law03_DiskLasts) tyOk mixed ?_
              conv => whnf
              refine Tri.seqK ?_
              replace hv := bind_some hv
              obtain ⟨y640, q641, hv⟩ := hv
              refine Tri.cut (fun ex S' => ex = .normal ∧ Weak S' ⟨127, 0, ofRegs [(5, .v (.string (bs with_.Name))), (6, .sl (List.map encAct with_.More)), (7, .v (.bool y1)), (8, .ptr 1 0), (12, .v (.string (bs y163.1))), (14, .v (.int .i64 a576))], [.gone, .var 24 [.sl (List.map encFile y640.1), .v (.int .i64 y640.2.1), .v (.int .i64 y640.2.2.1), .v (.bool y640.2.2.2)]]⟩) ?_ ?_
              · refine Tri.block ?_
                refine Tri.seqK ?_
                replace q641 := bind_some q641
                obtain ⟨y648, q649, q641⟩ := q641
                refine Tri.cut (fun ex S' => ex = .normal ∧ Weak S' ⟨127, 0, ofRegs [(5, .v (.string (bs with_.Name))), (6, .sl (List.map encAct with_.More)), (7, .v (.bool y1)), (8, .ptr 1 0), (12, .v (.string (bs y163.1))), (14, .v (.int .i64 a576)), (91, .v (.bool y648))], [.gone, .var 24 [.sl (List.map encFile a577), .v (.int .i64 a578), .v (.int .i64 a579), .v (.bool a580)]]⟩) ?_ ?_
                · refine Tri.run (G := gm_law03_DiskLasts) tyOk mixed ?_
                  conv => whnf
                  replace q649 := bind_some q649
                  obtain ⟨x650, q651, q649⟩ := q649
                  refine ⟨(ix_some q651).1, ?_⟩
                  conv => whnf
                  refine ⟨⟨_, map_get encAct (ix_some q651).2, ?_⟩⟩
                  conv => whnf
                  refine ⟨rfl, ?_⟩
                  conv => whnf
                  refine cond_mk (fun c652 => ?_) (fun c652 => ?_)
                  · replace q649 := if_t c652 q649
                    conv => whnf
                    refine ⟨(ix_some q651).1, ?_⟩
                    conv => whnf
                    refine ⟨⟨_, map_get encAct (ix_some q651).2, ?_⟩⟩
                    conv => whnf
                    refine ⟨rfl, ?_⟩
                    conv => whnf
                    obtain rfl := Option.some.inj q649
                    exact ⟨rfl, weak_fin _ rfl rfl rfl (.cons (.same rfl) (.cons (.same rfl) (LeH.rest))) (.cons (.one (.same rfl)) (.cons (.one (.same rfl)) (.cons (.one (.same rfl)) (.cons (.one (.same rfl)) (.cons (.one (.same rfl)) (.cons (.one (.same rfl)) (.cons (.one (.same rfl)) (.nil)))))))) rfl rfl⟩
                  · replace q649 := if_f c652 q649
                    conv => whnf
                    obtain rfl := Option.some.inj q649
                    exact ⟨rfl, weak_fin _ rfl rfl rfl (.cons (.same rfl) (.cons (.same rfl) (LeH.rest))) (.cons (.one (.same rfl)) (.cons (.one (.same rfl)) (.cons (.one (.same rfl)) (.cons (.one (.same rfl)) (.cons (.one (.same rfl)) (.cons (.one (.same rfl)) (.cons (.one (.same rfl)) (.nil)))))))) rfl rfl⟩
                · rintro ex S' ⟨rfl, w653⟩
                  conv => whnf
                  refine Tri.weak w653 ?_
                  refine Tri.cond rfl (fun c654 => ?_) (fun c654 => ?_)
                  · replace q641 := if_t c654 q641
                    refine Tri.run (G := gm_law03_DiskLasts) tyOk mixed ?_
                    conv => whnf
                    refine Draw.one 10 (.take 1 (.take 2 (.take 3 (.take 4 (.alt 0 (.alt 5 (.take 6 (.take 7 (.take 8 (.alt 9 (.fin) (.nil))))) (.nil)) (.nil)))))) [1, 2, 3, 4, 5, 6, 7] (by kernel_rfl) ?_
                    conv => whnf
                    replace q641 := bind_some q641
                    obtain ⟨x659, q660, q641⟩ := q641
                    refine ⟨(ix_some q660).1, ?_⟩
                    conv => whnf
                    refine ⟨⟨_, map_get encAct (ix_some q660).2, ?_⟩⟩
                    conv => whnf
                    refine ⟨rfl, ?_⟩
                    conv => whnf
                    refine ⟨?_, ?_⟩
                    · conv => whnf
                      refine ⟨?_, ?_⟩
                      · conv => whnf
                        replace q641 := bind_some q641
                        obtain ⟨y661, q662, q641⟩ := q641
                        refine PureP.mono (law03_does_walk ({ Files := a577, Room := a578, Fuse := a579, Off := a580 } : Disk) x659 y661 q662) ?_
                        rintro _ rfl
                        conv => whnf
                        refine ⟨?_, ?_⟩
                        · conv => whnf
                          obtain rfl := Option.some.inj q641
                          exact ⟨rfl, weak_fin _ rfl rfl rfl (.cons (.same rfl) (.cons (.same rfl) (LeH.rest))) (.cons (.one (.same rfl)) (.cons (.one (.same rfl)) (.cons (.one (.same rfl)) (.cons (.one (.same rfl)) (.cons (.one (.same rfl)) (.cons (.one (.same rfl)) (.nil))))))) rfl rfl⟩
                        · conv => whnf
                          trivial
                      · conv => whnf
                        trivial
                    · conv => whnf
                      trivial
                  · replace q641 := if_f c654 q641
                    refine Tri.run (G := gm_law03_DiskLasts) tyOk mixed ?_
                    conv => whnf
                    obtain rfl := Option.some.inj q641
                    exact ⟨rfl, weak_fin _ rfl rfl rfl (.cons (.same rfl) (.cons (.same rfl) (LeH.rest))) (.cons (.one (.same rfl)) (.cons (.one (.same rfl)) (.cons (.one (.same rfl)) (.cons (.one (.same rfl)) (.cons (.one (.same rfl)) (.cons (.one (.same rfl)) (.nil))))))) rfl rfl⟩
              · rintro ex S' ⟨rfl, w663⟩
                conv => whnf
                refine Tri.weak w663 ?_
                refine Tri.run (G := gm_law03_DiskLasts) tyOk mixed ?_
                conv => whnf
                obtain rfl := Option.some.inj hv
                exact ⟨_, rfl, weak_fin _ rfl rfl rfl (.cons (.same rfl) (.cons (.same rfl) (LeH.rest))) (.cons (.one (.same rfl)) (.cons (.one (.same rfl)) (.cons (.one (.same rfl)) (.cons (.one (.same rfl)) (.cons (.one (.same rfl)) (.cons (.one (.same rfl)) (.nil))))))) rfl rfl⟩
            · replace hv := if_f c597 hv
              refine Tri.run (G := gm_law03_DiskLasts) tyOk mixed ?_
              conv => whnf
              obtain rfl := Option.some.inj hv
              obtain rfl := r585 _ rfl
              exact ⟨rfl, weak_fin _ rfl rfl rfl (.cons (.same rfl) (.cons (.same rfl) (LeH.rest))) (.cons (.one (.same rfl)) (.cons (.one (.same rfl)) (.cons (.one (.same rfl)) (.cons (.one (.same rfl)) (.nil))))) rfl rfl⟩
        · rintro ex S' ⟨rfl, w664⟩
          conv => whnf
          refine Tri.weak w664 ?_
          refine Tri.seqK ?_
          refine Tri.run (G := gm_law03_DiskLasts) tyOk mixed ?_
          conv => whnf
          replace h := bind_some h
          obtain ⟨y665, q666, h⟩ := h
          refine PureP.mono (disk_Read_walk ({ Files := y581.1, Room := y581.2.1, Fuse := y581.2.2.1, Off := y581.2.2.2 } : Disk) with_.Name y665 q666) ?_
          rintro _ rfl
          conv => whnf
          refine Tri.seqK ?_
          refine Tri.run (G := gm_law03_DiskLasts) tyOk mixed ?_
          conv => whnf
          refine cond_mk (fun c667 => ?_) (fun c667 => ?_)
          · replace h := if_t c667 h
            conv => whnf
            refine cond_mk (fun c668 => ?_) (fun c668 => ?_)
            · replace h := if_t c668 h
              conv => whnf
              refine ⟨⟨(y665.1.length : Int), rfl, ?_⟩⟩
              conv => whnf
              refine ⟨⟨(y163.1.length : Int), rfl, ?_⟩⟩
              conv => whnf
              refine cond_mk (fun c669 => ?_) (fun c669 => ?_)
              · replace h := if_t c669 h
                conv => whnf
                refine ⟨⟨(y163.1.length : Int), rfl, ?_⟩⟩
                conv => whnf
                replace h := need_some h
                obtain ⟨p670, h⟩ := h
                refine ⟨p670, ?_⟩
                conv => whnf
                refine ⟨⟨bs (cut y665.1 0 (y163.1.length : Int)), bs_cut _ _ _, ?_⟩⟩
                conv => whnf
                refine ⟨⟨(decide ((cut y665.1 0 (y163.1.length : Int)) = y163.1)), bs_eq _ _, ?_⟩⟩
                conv => whnf
                refine Tri.run (G := gm_law03_DiskLasts) tyOk mixed ?_
                conv => whnf
                refine fin_here ?_
                conv => whnf
                obtain rfl := Option.some.inj h
                rfl
              · replace h := if_f c669 h
                conv => whnf
                refine Tri.run (G := gm_law03_DiskLasts) tyOk mixed ?_
                conv => whnf
                refine fin_here ?_
                conv => whnf
                obtain rfl := Option.some.inj h
                rfl
            · replace h := if_f c668 h
              conv => whnf
              refine Tri.run (G := gm_law03_DiskLasts) tyOk mixed ?_
              conv => whnf
              refine fin_here ?_
              conv => whnf
              obtain rfl := Option.some.inj h
              rfl
          · replace h := if_f c667 h
            conv => whnf
            refine Tri.run (G := gm_law03_DiskLasts) tyOk mixed ?_
            conv => whnf
            refine fin_here ?_
            conv => whnf
            obtain rfl := Option.some.inj h
            rfl
end Go.Ab
