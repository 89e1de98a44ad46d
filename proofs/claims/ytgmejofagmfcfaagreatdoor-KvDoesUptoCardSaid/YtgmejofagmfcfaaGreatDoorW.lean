/- The program's functions as plain Lean functions, and that the program comes to what they come to. Printed by a program of this session. -/
import Derived.Test.YtgmejofagmfcfaaGreatDoorW2
namespace Go.Ab
open Go.Proofs
set_option linter.unusedVariables false
set_option linter.unusedSimpArgs false
set_option maxRecDepth 100000
set_option maxHeartbeats 4000000
noncomputable section
def ref07_Pairs_l2 (s : State) (a1 : Int) (a2 : (List Pair)) : Option ((Int × (List Pair)) ⊕ ((List Pair))) :=
 if (decide (a1 < (s.Data.length : Int))) then
 (ix s.Data a1).bind fun x1 =>
 need (([100] : Str).length + x1.Key.length ≤ 9223372036854775807) <|
 need ((a2.length + 1) * 32 ≤ 140737488355328) <|
 some (.inl ((IntKind.i64.wrap (a1 + 1)), (a2 ++ [({ Key := ([100] ++ x1.Key), Val := x1.Val } : Pair)])))
 else
 some (.inr a2)
def ref07_Pairs_l4 (s : State) (a1 : Int) (a2 : (List Pair)) : Option ((Int × (List Pair)) ⊕ ((List Pair))) :=
 if (decide (a1 < (s.Toks.length : Int))) then
 (ix s.Toks a1).bind fun x1 =>
 need (([116] : Str).length + x1.Key.length ≤ 9223372036854775807) <|
 need ((a2.length + 1) * 32 ≤ 140737488355328) <|
 some (.inl ((IntKind.i64.wrap (a1 + 1)), (a2 ++ [({ Key := ([116] ++ x1.Key), Val := x1.Val } : Pair)])))
 else
 some (.inr a2)
def ref07_Pairs (s : State) : Option ((List Pair)) :=
 (loop (fun (s1 : Int × (List Pair)) => ref07_Pairs_l2 s s1.1 s1.2) ((0 : Int), ([] : (List Pair)))).bind fun (y1 : (List Pair)) =>
 (loop (fun (s2 : Int × (List Pair)) => ref07_Pairs_l4 s s2.1 s2.2) ((0 : Int), y1)).bind fun (y2 : (List Pair)) =>
 some y2
theorem ref07_Pairs_walk {s r} (h : ref07_Pairs s = some r) : pP 78 [.agg (encState s)] (sL encPair r) := by
 unfold ref07_Pairs at h
 refine pW0 Tryz.func78 rfl fun g=>go ?_
 refine lQ h (fun s1=>⟨55, 0, ofRegs [(1, .ptr 0 0), (3, .row 1 ((List.map encPair s1.2).length)), (4, vI s1.1)], [.var 36 (encState s), .row 90 2 (List.map encPair s1.2)]⟩) (aO (.exit 0) (fun y1=>⟨55, 0, ofRegs [(1, .ptr 0 0), (3, .row 1 ((List.map encPair y1).length))], [.var 36 (encState s), .row 90 2 (List.map encPair y1)]⟩)) (Weak.trans (weak_nil 3 90 2 rfl) wI) ?_ <|bO fun y1 _ h w=>wk w (go ?_)
 rintro y1 ⟨a1,a2⟩ v1 h r
 replace h : ref07_Pairs_l2 s a1 a2 = some v1 := h
 unfold ref07_Pairs_l2 at h
 dsimp only
 refine go ?_
 refine ⟨_, (len_map _ _).symm, go ?_⟩
 refine cC h rfl (fun c1 h=>go ?_) fun c1 h=>xE
 refine Draw.one 18 (.take 0 (.take 1 (.take 2 (.take 3 (.take 4 (.take 5 (.take 6 (.take 7 (.take 8 (.take 9 (.take 10 (.take 11 (.take 12 (.take 13 (.take 14 (.alt 15 (.alt 16 (.take 17 (.fin)) (.nil)) (.nil))))))))))))))))) [] (by kernel_rfl) (go ?_)
 refine bD h fun x1 q1 h=>⟨(ix_some q1).1, _, map_get encPair (ix_some q1).2, rfl, go ?_⟩
 refine nD h fun p1 h=>⟨p1, _, bs_append _ _, (ix_some q1).1, _, map_get encPair (ix_some q1).2, rfl, ⟨List.map encPair [({ Key := ([100] ++ x1.Key), Val := x1.Val } : Pair)], rfl, ⟨rfl, rfl, go ?_⟩, ⟨⟩⟩, ⟨⟩⟩
 refine nD h fun p2 h=>⟨by simp only [List.length_map]; exact p2, List.map encPair (a2 ++ [({ Key := ([100] ++ x1.Key), Val := x1.Val } : Pair)]), map_app encPair _ _ rfl rfl, cN⟩
 refine lQ h (fun s2=>⟨55, 0, ofRegs [(1, .ptr 0 0), (3, .row 1 ((List.map encPair s2.2).length)), (5, vI s2.1)], [.var 36 (encState s), .row 90 2 (List.map encPair s2.2)]⟩) (aO (.exit 2) (fun y2=>⟨55, 0, ofRegs [(3, .row 1 ((List.map encPair y2).length))], [.gone, .row 90 2 (List.map encPair y2)]⟩)) wA ?_ <|bO fun y2 _ h w=>wk w eF
 rintro y2 ⟨a3,a4⟩ v2 h r
 replace h : ref07_Pairs_l4 s a3 a4 = some v2 := h
 unfold ref07_Pairs_l4 at h
 dsimp only
 refine go ?_
 refine ⟨_, (len_map _ _).symm, go ?_⟩
 refine cC h rfl (fun c2 h=>go ?_) fun c2 h=>go ?_
 refine Draw.one 18 (.take 0 (.take 1 (.take 2 (.take 3 (.take 4 (.take 5 (.take 6 (.take 7 (.take 8 (.take 9 (.take 10 (.take 11 (.take 12 (.take 13 (.take 14 (.alt 15 (.alt 16 (.take 17 (.fin)) (.nil)) (.nil))))))))))))))))) [] (by kernel_rfl) (go ?_)
 refine bD h fun x2 q2 h=>⟨(ix_some q2).1, _, map_get encPair (ix_some q2).2, rfl, go ?_⟩
 refine nD h fun p3 h=>⟨p3, _, bs_append _ _, (ix_some q2).1, _, map_get encPair (ix_some q2).2, rfl, ⟨List.map encPair [({ Key := ([116] ++ x2.Key), Val := x2.Val } : Pair)], rfl, ⟨rfl, rfl, go ?_⟩, ⟨⟩⟩, ⟨⟩⟩
 refine nD h fun p4 h=>⟨by simp only [List.length_map]; exact p4, List.map encPair (a4 ++ [({ Key := ([116] ++ x2.Key), Val := x2.Val } : Pair)]), map_app encPair _ _ rfl rfl, cN⟩
 cases h
 obtain rfl := r _ rfl
 exact ⟨rfl, (wF (.g .rest) (.all rfl))⟩
def ref06_Bytes_l2 (l : (List Pair)) (a1 : Str) (a2 : Int) : Option ((Str × Int) ⊕ (Str)) :=
 if (decide (a2 < (l.length : Int))) then
 (ix l a2).bind fun x1 =>
 (ref01_Text x1.Key).bind fun y1 =>
 need (a1.length + y1.length ≤ 9223372036854775807) <|
 (ref01_Text x1.Val).bind fun y2 =>
 need ((a1 ++ y1).length + y2.length ≤ 9223372036854775807) <|
 some (.inl (((a1 ++ y1) ++ y2), (IntKind.i64.wrap (a2 + 1))))
 else
 some (.inr a1)
def ref06_Bytes (l : (List Pair)) : Option (Str × Int) :=
 (ref06_may l).bind fun y1 =>
 if (!y1) then some ([], 1) else
 (ref01_Num (IntKind.u64.wrap (l.length : Int))).bind fun y2 =>
 (loop (fun (s1 : Str × Int) => ref06_Bytes_l2 l s1.1 s1.2) (y2, (0 : Int))).bind fun (y3 : Str) =>
 (ref02_Seal y3).bind fun y4 =>
 some (y4, 0)
theorem ref06_Bytes_walk {l r} (h : ref06_Bytes l = some r) : pP 77 [sL encPair l] (.tup [vS r.1, vI r.2]) := by
 unfold ref06_Bytes at h
 refine pW0 Tryz.func77 rfl fun g=>go ?_
 refine cP h ref06_may_walk fun y1 h=>go ?_
 refine cC h rfl (fun c1 h=>eF) fun c1 h=>go ?_
 refine ⟨_, (len_map _ _).symm, (IntKind.u64.wrap (l.length : Int)), rfl, go ?_⟩
 refine cP h ref01_Num_walk fun y2 h=>go ?_
 refine lQ h (fun s1=>⟨38, 0, ofRegs [(0, sL encPair l), (5, vS s1.1), (6, vI s1.2)], []⟩) (aO (.exit 0) (fun y3=>⟨38, 0, ofRegs [(5, vS y3)], []⟩)) wA ?_ <|bO fun y3 _ h w=>wk w (go ?_)
 rintro y3 ⟨a1,a2⟩ v1 h r
 replace h : ref06_Bytes_l2 l a1 a2 = some v1 := h
 unfold ref06_Bytes_l2 at h
 dsimp only
 refine go ?_
 refine ⟨_, (len_map _ _).symm, go ?_⟩
 refine cC h rfl (fun c2 h=>go ?_) fun c2 h=>xE
 refine Draw.one 16 (.take 0 (.take 1 (.take 2 (.take 3 (.take 4 (.take 5 (.take 8 (.take 9 (.take 10 (.take 11 (.take 12 (.alt 6 (.take 7 (.alt 13 (.take 14 (.take 15 (.fin))) (.nil))) (.nil))))))))))))) [] (by kernel_rfl) (go ?_)
 refine bD h fun x1 q1 h=>⟨(ix_some q1).1, _, map_get encPair (ix_some q1).2, rfl, (ix_some q1).1, _, map_get encPair (ix_some q1).2, rfl, go ?_, ⟨⟩⟩
 refine cP h ref01_Text_walk fun y4 h=>go ?_
 refine nD h fun p1 h=>⟨p1, _, bs_append _ _, go ?_, ⟨⟩⟩
 refine cP h ref01_Text_walk fun y6 h=>go ?_
 refine nD h fun p2 h=>⟨p2, _, bs_append _ _, cN⟩
 exact cP h ref02_Seal_walk fun y7 h=>eF
def ref06_Lay (d : Disk) (name s : Str) : Option (Disk × Int) :=
 need (([110, 46] : Str).length + name.length ≤ 9223372036854775807) <|
 (ref03_Find d ([110, 46] ++ name)).bind fun y1 =>
 (if y1.2 then
 (ref03_Delete d ([110, 46] ++ name)).bind fun y3 =>
 some (y3.2, y3.1.Files, y3.1.Room, y3.1.Fuse, y3.1.Off)
 else
 some (0, d.Files, d.Room, d.Fuse, d.Off)).bind fun (y4 : Int × (List File) × Int × Int × Bool) =>
 (if (decide (y4.1 = 0)) then
 (ref03_Append ({ Files := y4.2.1, Room := y4.2.2.1, Fuse := y4.2.2.2.1, Off := y4.2.2.2.2 } : Disk) ([110, 46] ++ name) s).bind fun y5 =>
 some (y5.2, y5.1.Files, y5.1.Room, y5.1.Fuse, y5.1.Off)
 else
 some (y4.1, y4.2.1, y4.2.2.1, y4.2.2.2.1, y4.2.2.2.2)).bind fun (y6 : Int × (List File) × Int × Int × Bool) =>
 (if (decide (y6.1 = 0)) then
 (ref03_Sync ({ Files := y6.2.1, Room := y6.2.2.1, Fuse := y6.2.2.2.1, Off := y6.2.2.2.2 } : Disk) ([110, 46] ++ name)).bind fun y7 =>
 some (y7.2, y7.1.Files, y7.1.Room, y7.1.Fuse, y7.1.Off)
 else
 some (y6.1, y6.2.1, y6.2.2.1, y6.2.2.2.1, y6.2.2.2.2)).bind fun (y8 : Int × (List File) × Int × Int × Bool) =>
 (if (decide (y8.1 = 0)) then
 (ref03_Rename ({ Files := y8.2.1, Room := y8.2.2.1, Fuse := y8.2.2.2.1, Off := y8.2.2.2.2 } : Disk) ([110, 46] ++ name) name).bind fun y9 =>
 some (y9.2, y9.1.Files, y9.1.Room, y9.1.Fuse, y9.1.Off)
 else
 some (y8.1, y8.2.1, y8.2.2.1, y8.2.2.2.1, y8.2.2.2.2)).bind fun (y11 : Int × (List File) × Int × Int × Bool) =>
 some (({ Files := y11.2.1, Room := y11.2.2.1, Fuse := y11.2.2.2.1, Off := y11.2.2.2.2 } : Disk), y11.1)
theorem ref06_Lay_walk {d name s r} (h : ref06_Lay d name s = some r) : pP 79 [.agg (encDisk d), vS name, vS s] (.tup [.agg (encDisk r.1), vI r.2]) := by
 unfold ref06_Lay at h
 refine pW0 Tryz.func79 rfl fun g=>go ?_
 refine nD h fun p1 h=>⟨p1, _, bs_append _ _, go ?_⟩
 refine cP h ref03_Find_walk fun y1 h=>gN 0 ?_
 refine k1 h (fun y3=>⟨55, 0, ofRegs [(1, vS name), (2, vS s), (3, .ptr 0 0), (6, .ptr 1 0), (8, vS ([110, 46] ++ name)), (9, vI y3.1)], [.var 31 [sL encFile y3.2.1, vI y3.2.2.1, vI y3.2.2.2.1, vB y3.2.2.2.2], .var 31 [vN, vI 0, vI 0, vB false]]⟩) (fun y3 h=>go ?_) fun y3 h=>(k1 h (fun y4=>⟨55, 0, ofRegs [(1, vS name), (3, .ptr 0 0), (6, .ptr 1 0), (8, vS ([110, 46] ++ name)), (9, vI y4.1)], [.var 31 [sL encFile y4.2.1, vI y4.2.2.1, vI y4.2.2.2.1, vB y4.2.2.2.2], .var 31 [vN, vI 0, vI 0, vB false]]⟩) (fun y4 h=>go ?_) fun y4 h=>(k1 h (fun y5=>⟨55, 0, ofRegs [(1, vS name), (3, .ptr 0 0), (6, .ptr 1 0), (8, vS ([110, 46] ++ name)), (9, vI y5.1)], [.var 31 [sL encFile y5.2.1, vI y5.2.2.1, vI y5.2.2.2.1, vB y5.2.2.2.2], .var 31 [vN, vI 0, vI 0, vB false]]⟩) (fun y5 h=>go ?_) fun y5 h=>(k1 h (fun y6=>⟨55, 0, ofRegs [(3, .ptr 0 0), (6, .ptr 1 0), (9, vI y6.1)], [.var 31 [sL encFile y6.2.1, vI y6.2.2.1, vI y6.2.2.2.1, vB y6.2.2.2.2], .var 31 [vN, vI 0, vI 0, vB false]]⟩) (fun y6 h=>go ?_) fun y6 h=>eF)))
 refine cC h rfl (fun c1 h=>go ?_) fun c1 h=>cE
 exact cP h ref03_Delete_walk fun y7 h=>cE
 refine cC h rfl (fun c2 h=>go ?_) fun c2 h=>cE
 exact cP h ref03_Append_walk fun y8 h=>cE
 refine cC h rfl (fun c3 h=>go ?_) fun c3 h=>cE
 exact cP h ref03_Sync_walk fun y9 h=>cE
 refine cC h rfl (fun c4 h=>go ?_) fun c4 h=>cE
 exact cP h ref03_Rename_walk fun y11 h=>cE
def ref04_Drop_l2 (to a1 : Int) (a2 : (List File)) (a3 a4 : Int) (a5 : Bool) : Option ((Int × (List File) × Int × Int × Bool) ⊕ ((Int × (List File) × Int × Int × Bool) ⊕ ((List File) × Int × Int × Bool))) :=
 if ((decide (a1 < to)) && (decide (a1 ≤ 1000000))) then
 ((ref04_Name a1).bind fun y1 =>
 (ref03_Find ({ Files := a2, Room := a3, Fuse := a4, Off := a5 } : Disk) y1).bind fun y2 =>
 if (!y2.2) then some (.inl (a2, a3, a4, a5)) else
 (ref03_Delete ({ Files := a2, Room := a3, Fuse := a4, Off := a5 } : Disk) y1).bind fun y3 =>
 if (!(decide (y3.2 = 0))) then some (.inr (y3.2, y3.1.Files, y3.1.Room, y3.1.Fuse, y3.1.Off)) else
 some (.inl (y3.1.Files, y3.1.Room, y3.1.Fuse, y3.1.Off))).bind fun (y4 : ((List File) × Int × Int × Bool) ⊕ (Int × (List File) × Int × Int × Bool)) =>
 match y4 with
 | (.inl v1) =>
  some (.inl ((IntKind.i64.wrap (a1 + 1)), v1.1, v1.2.1, v1.2.2.1, v1.2.2.2))
 | (.inr v2) =>
 some (.inr (.inl (v2.1, v2.2.1, v2.2.2.1, v2.2.2.2.1, v2.2.2.2.2)))
 else
 some (.inr (.inr (a2, a3, a4, a5)))
def ref04_Drop (d : Disk) (from_ to : Int) : Option (Disk × Int) :=
 (loop (fun (s1 : Int × (List File) × Int × Int × Bool) => ref04_Drop_l2 to s1.1 s1.2.1 s1.2.2.1 s1.2.2.2.1 s1.2.2.2.2) ((if (decide (from_ < 1)) then 1 else from_), d.Files, d.Room, d.Fuse, d.Off)).bind fun (y1 : (Int × (List File) × Int × Int × Bool) ⊕ ((List File) × Int × Int × Bool)) =>
 match y1 with
 | (.inl v1) =>
  some (({ Files := v1.2.1, Room := v1.2.2.1, Fuse := v1.2.2.2.1, Off := v1.2.2.2.2 } : Disk), v1.1)
 | (.inr v2) =>
 some (({ Files := v2.1, Room := v2.2.1, Fuse := v2.2.2.1, Off := v2.2.2.2 } : Disk), 0)
theorem ref04_Drop_walk {d from_ to r} (h : ref04_Drop d from_ to = some r) : pP 81 [.agg (encDisk d), vI from_, vI to] (.tup [.agg (encDisk r.1), vI r.2]) := by
 unfold ref04_Drop at h
 refine pW0 Tryz.func81 rfl fun g=>gN 2 ?_
 refine k0 ⟨47, 0, ofRegs [(1, vI (if (decide (from_ < 1)) then 1 else from_)), (2, vI to), (3, .ptr 0 0), (6, .ptr 1 0)], [.var 31 (encDisk d), .var 31 [vN, vI 0, vI 0, vB false]]⟩ (go ?_) (go ?_)
 exact cD (decide (from_ < 1)) rfl (fun i1=>cI) fun i1=>cI
 refine lQ h (fun s1=>⟨47, 0, ofRegs [(2, vI to), (3, .ptr 0 0), (6, .ptr 1 0), (8, vI s1.1)], [.var 31 [sL encFile s1.2.1, vI s1.2.2.1, vI s1.2.2.2.1, vB s1.2.2.2.2], .var 31 [vN, vI 0, vI 0, vB false]]⟩) (Sum.elim (aO .ret (fun v1=>⟨47, 0, ofRegs [(6, .ptr 1 0), (7, vI v1.1)], [.gone, .var 31 [sL encFile v1.2.1, vI v1.2.2.1, vI v1.2.2.2.1, vB v1.2.2.2.2]]⟩)) (aO (.exit 0) (fun v2=>⟨47, 0, ofRegs [(3, .ptr 0 0), (6, .ptr 1 0)], [.var 31 [sL encFile v2.1, vI v2.2.1, vI v2.2.2.1, vB v2.2.2.2], .var 31 [vN, vI 0, vI 0, vB false]]⟩))) wA ?_ <|bE (bO fun v1 _ h w=>eFw) <|bO fun v2 _ h w=>wk w eF
 rintro y1 ⟨a1,a2,a3,a4,a5⟩ v3 h r
 replace h : ref04_Drop_l2 to a1 a2 a3 a4 a5 = some v3 := h
 unfold ref04_Drop_l2 at h
 dsimp only
 refine gN 1 ?_
 refine k0 ⟨47, 0, ofRegs [(2, vI to), (3, .ptr 0 0), (6, .ptr 1 0), (8, vI a1), (22, vB ((decide (a1 < to)) && (decide (a1 ≤ 1000000))))], [.var 31 [sL encFile a2, vI a3, vI a4, vB a5], .var 31 [vN, vI 0, vI 0, vB false]]⟩ (go ?_) ((cC h rfl (fun c1 h=>gN 1 ?_) fun c1 h=>xE))
 exact cK (decide (a1 < to)) (fun i1=>cI) fun i1=>cI
 refine kS h (Sum.elim (aO .normal (fun v4=>⟨47, 0, ofRegs [(2, vI to), (3, .ptr 0 0), (6, .ptr 1 0), (8, vI a1)], [.var 31 [sL encFile v4.1, vI v4.2.1, vI v4.2.2.1, vB v4.2.2.2], .var 31 [vN, vI 0, vI 0, vB false]]⟩)) (aO .ret (fun v5=>⟨47, 0, ofRegs [(6, .ptr 1 0), (7, vI v5.1)], [.gone, .var 31 [sL encFile v5.2.1, vI v5.2.2.1, vI v5.2.2.2.1, vB v5.2.2.2.2]]⟩))) (fun y2 h=>go ?_) <|bE (bO fun v4 _ h w=>wk w cN) <|bO fun v5 _ h w=>xEw
 obtain ⟨y3,q1,h⟩ := bind_some h
 obtain ⟨y4,q2,h⟩ := bind_some h
 refine Draw.many 9 (.take 0 (.take 1 (.alt 2 (.alt 3 (.take 4 (.take 5 (.take 6 (.alt 7 (.alt 8 (.fin) (.nil)) (.nil))))) (.alt 7 (.alt 3 (.take 4 (.take 5 (.take 6 (.alt 8 (.fin) (.nil))))) (.nil)) (.nil))) (.alt 7 (.alt 2 (.alt 3 (.take 4 (.take 5 (.take 6 (.alt 8 (.fin) (.nil))))) (.nil)) (.nil)) (.nil))))) [2, 3, 4, 5, 6, 7] (⟨47, 0, ofRegs [(2, vI to), (3, .ptr 0 0), (6, .ptr 1 0), (8, vI a1), (31, vB y4.2)], [.var 31 [sL encFile a2, vI a3, vI a4, vB a5], .var 31 [vN, vI 0, vI 0, vB false]]⟩) (by kernel_rfl) ⟨go ?_, ⟨⟨go ?_, ⟨⟩⟩, ⟨⟩⟩⟩ (go ?_)
 refine mP (ref04_Name_walk q1) ⟨go ?_, ⟨⟨go ?_, ⟨⟩⟩, ⟨⟩⟩⟩
 exact mP (ref03_Find_walk q2) ⟨⟨cA, ⟨⟩⟩, ⟨⟩⟩
 exact mP (ref03_Find_walk q2) ⟨cA, ⟨⟩⟩
 refine mP (ref04_Name_walk q1) ⟨go ?_, ⟨⟩⟩
 exact mP (ref03_Find_walk q2) ⟨cA, ⟨⟩⟩
 refine cC h rfl (fun c2 h=>cE) fun c2 h=>go ?_
 obtain ⟨y5,q3,h⟩ := bind_some h
 refine Draw.many 9 (.take 0 (.take 1 (.alt 2 (.alt 3 (.take 4 (.take 5 (.take 6 (.alt 7 (.alt 8 (.fin) (.nil)) (.nil))))) (.alt 7 (.alt 3 (.take 4 (.take 5 (.take 6 (.alt 8 (.fin) (.nil))))) (.nil)) (.nil))) (.alt 7 (.alt 2 (.alt 3 (.take 4 (.take 5 (.take 6 (.alt 8 (.fin) (.nil))))) (.nil)) (.nil)) (.nil))))) [2, 3, 4, 5, 6, 7] (⟨47, 0, ofRegs [(2, vI to), (3, .ptr 0 0), (6, .ptr 1 0), (8, vI a1), (11, .ptr 2 0), (40, vI y5.2)], [.var 31 [sL encFile a2, vI a3, vI a4, vB a5], .var 31 [vN, vI 0, vI 0, vB false], .var 31 (encDisk y5.1)]⟩) (by kernel_rfl) ⟨go ?_, ⟨⟨go ?_, ⟨⟩⟩, ⟨⟩⟩⟩ (go ?_)
 refine mP (ref04_Name_walk q1) ⟨go ?_, ⟨⟨go ?_, ⟨⟩⟩, ⟨⟩⟩⟩
 exact mP (ref03_Delete_walk q3) ⟨⟨cA, ⟨⟩⟩, ⟨⟩⟩
 exact mP (ref03_Delete_walk q3) ⟨cA, ⟨⟩⟩
 refine mP (ref04_Name_walk q1) ⟨go ?_, ⟨⟩⟩
 exact mP (ref03_Delete_walk q3) ⟨cA, ⟨⟩⟩
 refine cC h rfl (fun c3 h=>go ?_) fun c3 h=>cE
 cases h
 exact ⟨rfl, (wF (.g .rest) (.all rfl))⟩
def ref08_Check (x : Store) : Option (Store × Int) :=
 if x.Down then some (x, 6) else
 if ((decide (x.Seg ≥ 1000000)) || (decide (x.Run ≥ 1000000))) then some (x, 5) else
 (ref07_Pairs x.S).bind fun y1 =>
 (ref06_Bytes y1).bind fun y2 =>
 if (!(decide (y2.2 = 0))) then some (x, y2.2) else
 (ref08_RunName (IntKind.i64.wrap (x.Run + 1))).bind fun y3 =>
 (ref06_Lay x.D y3 y2.1).bind fun y4 =>
 (if (decide (y4.2 = 0)) then
 (ref08_Manifest (IntKind.i64.wrap (x.Seg + 1)) (IntKind.i64.wrap (x.Run + 1))).bind fun y5 =>
 (ref06_Lay y4.1 [109] y5).bind fun y6 =>
 some (y6.2, y6.1.Files, y6.1.Room, y6.1.Fuse, y6.1.Off)
 else
 some (y4.2, y4.1.Files, y4.1.Room, y4.1.Fuse, y4.1.Off)).bind fun (y7 : Int × (List File) × Int × Int × Bool) =>
 if (!(decide (y7.1 = 0))) then some (({ D := ({ Files := y7.2.1, Room := y7.2.2.1, Fuse := y7.2.2.2.1, Off := y7.2.2.2.2 } : Disk), From := x.From, Seg := x.Seg, Run := x.Run, S := x.S, Down := (decide (y7.1 = 6)) } : Store), y7.1) else
 (ref08_RunName (IntKind.i64.wrap ((IntKind.i64.wrap (x.Run + 1)) - 1))).bind fun y8 =>
 (ref03_Find ({ Files := y7.2.1, Room := y7.2.2.1, Fuse := y7.2.2.2.1, Off := y7.2.2.2.2 } : Disk) y8).bind fun y9 =>
 (if y9.2 then
 (ref03_Delete ({ Files := y7.2.1, Room := y7.2.2.1, Fuse := y7.2.2.2.1, Off := y7.2.2.2.2 } : Disk) y8).bind fun y10 =>
 some (y10.2, y10.1.Files, y10.1.Room, y10.1.Fuse, y10.1.Off)
 else
 some (y7.1, y7.2.1, y7.2.2.1, y7.2.2.2.1, y7.2.2.2.2)).bind fun (y11 : Int × (List File) × Int × Int × Bool) =>
 (if (decide (y11.1 = 0)) then
 (ref04_Drop ({ Files := y11.2.1, Room := y11.2.2.1, Fuse := y11.2.2.2.1, Off := y11.2.2.2.2 } : Disk) x.From (IntKind.i64.wrap (x.Seg + 1))).bind fun y12 =>
 some (y12.2, y12.1.Files, y12.1.Room, y12.1.Fuse, y12.1.Off)
 else
 some (y11.1, y11.2.1, y11.2.2.1, y11.2.2.2.1, y11.2.2.2.2)).bind fun (y13 : Int × (List File) × Int × Int × Bool) =>
 some (({ D := ({ Files := y13.2.1, Room := y13.2.2.1, Fuse := y13.2.2.2.1, Off := y13.2.2.2.2 } : Disk), From := (IntKind.i64.wrap (x.Seg + 1)), Seg := (IntKind.i64.wrap (x.Seg + 1)), Run := (IntKind.i64.wrap (x.Run + 1)), S := x.S, Down := (decide (y13.1 = 6)) } : Store), y13.1)
theorem ref08_Check_walk {x r} (h : ref08_Check x = some r) : pP 32 [.agg (encStore x)] (.tup [.agg (encStore r.1), vI r.2]) := by
 unfold ref08_Check at h
 refine pW0 Tryz.func32 rfl fun g=>go ?_
 refine cC h rfl (fun c1 h=>eF) fun c1 h=>gN 2 ?_
 refine k0 ⟨117, 0, ofRegs [(1, .ptr 0 0), (2, .ptr 1 0), (21, vB ((decide (x.Seg ≥ 1000000)) || (decide (x.Run ≥ 1000000))))], [.var 38 (encStore x), .var 38 [vN, vI 0, vI 0, vB false, vI 0, vI 0, vI 0, vN, vN, vB false]]⟩ (go ?_) ((cC h rfl (fun c3 h=>eF) fun c3 h=>go ?_))
 exact cK (decide (x.Seg ≥ 1000000)) (fun i1=>cI) fun i1=>cI
 refine cP h ref07_Pairs_walk fun y1 h=>go ?_
 refine cP h ref06_Bytes_walk fun y2 h=>go ?_
 refine cC h rfl (fun c4 h=>eF) fun c4 h=>go ?_
 obtain ⟨y3,q1,h⟩ := bind_some h
 obtain ⟨y4,q2,h⟩ := bind_some h
 refine Draw.many 11 (.take 0 (.take 2 (.take 4 (.alt 1 (.alt 3 (.alt 5 (.take 6 (.take 7 (.take 8 (.take 9 (.alt 10 (.fin) (.nil)))))) (.nil)) (.nil)) (.alt 3 (.alt 1 (.alt 5 (.take 6 (.take 7 (.take 8 (.take 9 (.alt 10 (.fin) (.nil)))))) (.nil)) (.nil)) (.nil)))))) [0, 2, 3, 4, 5, 6, 7] (⟨117, 0, ofRegs [(1, .ptr 0 0), (2, .ptr 1 0), (6, vI (IntKind.i64.wrap (x.Run + 1))), (45, vI y4.2)], [.var 38 [sL encFile y4.1.Files, vI y4.1.Room, vI y4.1.Fuse, vB y4.1.Off, vI x.From, vI x.Seg, vI x.Run, sL encPair x.S.Data, sL encPair x.S.Toks, vB x.Down], .var 38 [vN, vI 0, vI 0, vB false, vI 0, vI 0, vI 0, vN, vN, vB false]]⟩) (by kernel_rfl) ⟨⟨go ?_, ⟨⟩⟩, ⟨go ?_, ⟨⟩⟩⟩ (gN 0 ?_)
 refine mP (ref08_RunName_walk q1) ⟨go ?_, ⟨⟩⟩
 exact mP (ref06_Lay_walk q2) ⟨cA, ⟨⟩⟩
 refine mP (ref08_RunName_walk q1) ⟨⟨go ?_, ⟨⟩⟩, ⟨⟩⟩
 exact mP (ref06_Lay_walk q2) ⟨cA, ⟨⟩⟩
 refine k1 h (fun y5=>⟨117, 0, ofRegs [(1, .ptr 0 0), (2, .ptr 1 0), (6, vI (IntKind.i64.wrap (x.Run + 1))), (7, vI y5.1)], [.var 38 [sL encFile y5.2.1, vI y5.2.2.1, vI y5.2.2.2.1, vB y5.2.2.2.2, vI x.From, vI x.Seg, vI x.Run, sL encPair x.S.Data, sL encPair x.S.Toks, vB x.Down], .var 38 [vN, vI 0, vI 0, vB false, vI 0, vI 0, vI 0, vN, vN, vB false]]⟩) (fun y5 h=>go ?_) fun y5 h=>go ?_
 refine cC h rfl (fun c5 h=>go ?_) fun c5 h=>cE
 obtain ⟨y6,q3,h⟩ := bind_some h
 obtain ⟨y7,q4,h⟩ := bind_some h
 refine Draw.many 13 (.take 0 (.take 2 (.take 5 (.alt 1 (.alt 3 (.take 4 (.alt 6 (.alt 7 (.take 8 (.take 9 (.take 10 (.take 11 (.alt 12 (.fin) (.nil)))))) (.nil)) (.nil))) (.nil)) (.alt 3 (.take 4 (.alt 1 (.alt 6 (.alt 7 (.take 8 (.take 9 (.take 10 (.take 11 (.alt 12 (.fin) (.nil)))))) (.nil)) (.nil)) (.alt 6 (.alt 1 (.alt 7 (.take 8 (.take 9 (.take 10 (.take 11 (.alt 12 (.fin) (.nil)))))) (.nil)) (.nil)) (.nil)))) (.nil)))))) [0, 2, 3, 4, 5, 6, 7] (⟨117, 0, ofRegs [(1, .ptr 0 0), (2, .ptr 1 0), (6, vI (IntKind.i64.wrap (x.Run + 1))), (59, vI y7.2)], [.var 38 [sL encFile y7.1.Files, vI y7.1.Room, vI y7.1.Fuse, vB y7.1.Off, vI x.From, vI x.Seg, vI x.Run, sL encPair x.S.Data, sL encPair x.S.Toks, vB x.Down], .var 38 [vN, vI 0, vI 0, vB false, vI 0, vI 0, vI 0, vN, vN, vB false]]⟩) (by kernel_rfl) ⟨⟨⟨go ?_, ⟨⟩⟩, ⟨⟩⟩, ⟨⟨⟨go ?_, ⟨⟩⟩, ⟨go ?_, ⟨⟩⟩⟩, ⟨⟩⟩⟩ cE
 refine mP (ref08_Manifest_walk q3) ⟨go ?_, ⟨⟩⟩
 exact mP (ref06_Lay_walk q4) ⟨cA, ⟨⟩⟩
 refine mP (ref08_Manifest_walk q3) ⟨go ?_, ⟨⟩⟩
 exact mP (ref06_Lay_walk q4) ⟨cA, ⟨⟩⟩
 refine mP (ref08_Manifest_walk q3) ⟨⟨go ?_, ⟨⟩⟩, ⟨⟩⟩
 exact mP (ref06_Lay_walk q4) ⟨cA, ⟨⟩⟩
 refine cC h rfl (fun c6 h=>eF) fun c6 h=>go ?_
 obtain ⟨y8,q5,h⟩ := bind_some h
 obtain ⟨y9,q6,h⟩ := bind_some h
 refine Draw.many 11 (.take 0 (.take 1 (.take 2 (.take 3 (.alt 4 (.alt 5 (.take 6 (.take 7 (.take 8 (.alt 9 (.alt 10 (.fin) (.nil)) (.nil))))) (.alt 9 (.alt 5 (.take 6 (.take 7 (.take 8 (.alt 10 (.fin) (.nil))))) (.nil)) (.nil))) (.alt 9 (.alt 4 (.alt 5 (.take 6 (.take 7 (.take 8 (.alt 10 (.fin) (.nil))))) (.nil)) (.nil)) (.nil))))))) [2, 3, 4, 5, 6, 7] (⟨117, 0, ofRegs [(1, .ptr 0 0), (2, .ptr 1 0), (6, vI (IntKind.i64.wrap (x.Run + 1))), (7, vI y5.1), (8, vI x.From), (88, vB y9.2)], [.var 38 [sL encFile y5.2.1, vI y5.2.2.1, vI y5.2.2.2.1, vB y5.2.2.2.2, vI (IntKind.i64.wrap (x.Seg + 1)), vI (IntKind.i64.wrap (x.Seg + 1)), vI (IntKind.i64.wrap (x.Run + 1)), sL encPair x.S.Data, sL encPair x.S.Toks, vB x.Down], .var 38 [vN, vI 0, vI 0, vB false, vI 0, vI 0, vI 0, vN, vN, vB false]]⟩) (by kernel_rfl) ⟨go ?_, ⟨⟨go ?_, ⟨⟩⟩, ⟨⟩⟩⟩ (gN 0 ?_)
 refine mP (ref08_RunName_walk q5) ⟨go ?_, ⟨⟨go ?_, ⟨⟩⟩, ⟨⟩⟩⟩
 exact mP (ref03_Find_walk q6) ⟨⟨cA, ⟨⟩⟩, ⟨⟩⟩
 exact mP (ref03_Find_walk q6) ⟨cA, ⟨⟩⟩
 refine mP (ref08_RunName_walk q5) ⟨go ?_, ⟨⟩⟩
 exact mP (ref03_Find_walk q6) ⟨cA, ⟨⟩⟩
 refine k1 h (fun y10=>⟨117, 0, ofRegs [(1, .ptr 0 0), (2, .ptr 1 0), (7, vI y10.1), (8, vI x.From)], [.var 38 [sL encFile y10.2.1, vI y10.2.2.1, vI y10.2.2.2.1, vB y10.2.2.2.2, vI (IntKind.i64.wrap (x.Seg + 1)), vI (IntKind.i64.wrap (x.Seg + 1)), vI (IntKind.i64.wrap (x.Run + 1)), sL encPair x.S.Data, sL encPair x.S.Toks, vB x.Down], .var 38 [vN, vI 0, vI 0, vB false, vI 0, vI 0, vI 0, vN, vN, vB false]]⟩) (fun y10 h=>go ?_) fun y10 h=>(k1 h (fun y11=>⟨117, 0, ofRegs [(1, .ptr 0 0), (2, .ptr 1 0), (7, vI y11.1)], [.var 38 [sL encFile y11.2.1, vI y11.2.2.1, vI y11.2.2.2.1, vB y11.2.2.2.2, vI (IntKind.i64.wrap (x.Seg + 1)), vI (IntKind.i64.wrap (x.Seg + 1)), vI (IntKind.i64.wrap (x.Run + 1)), sL encPair x.S.Data, sL encPair x.S.Toks, vB x.Down], .var 38 [vN, vI 0, vI 0, vB false, vI 0, vI 0, vI 0, vN, vN, vB false]]⟩) (fun y11 h=>go ?_) fun y11 h=>eF)
 refine cC h rfl (fun c7 h=>go ?_) fun c7 h=>cE
 obtain ⟨y12,q7,h⟩ := bind_some h
 refine Draw.many 11 (.take 0 (.take 2 (.take 3 (.alt 1 (.alt 4 (.alt 5 (.take 6 (.take 7 (.take 8 (.take 9 (.alt 10 (.fin) (.nil)))))) (.nil)) (.nil)) (.alt 4 (.alt 1 (.alt 5 (.take 6 (.take 7 (.take 8 (.take 9 (.alt 10 (.fin) (.nil)))))) (.nil)) (.nil)) (.nil)))))) [0, 2, 3, 4, 5, 6, 7] (⟨117, 0, ofRegs [(1, .ptr 0 0), (2, .ptr 1 0), (8, vI x.From), (98, vI y12.2)], [.var 38 [sL encFile y12.1.Files, vI y12.1.Room, vI y12.1.Fuse, vB y12.1.Off, vI (IntKind.i64.wrap (x.Seg + 1)), vI (IntKind.i64.wrap (x.Seg + 1)), vI (IntKind.i64.wrap (x.Run + 1)), sL encPair x.S.Data, sL encPair x.S.Toks, vB x.Down], .var 38 [vN, vI 0, vI 0, vB false, vI 0, vI 0, vI 0, vN, vN, vB false]]⟩) (by kernel_rfl) ⟨⟨go ?_, ⟨⟩⟩, ⟨go ?_, ⟨⟩⟩⟩ cE
 refine mP (ref08_RunName_walk q5) ⟨go ?_, ⟨⟩⟩
 exact mP (ref03_Delete_walk q7) ⟨cA, ⟨⟩⟩
 refine mP (ref08_RunName_walk q5) ⟨⟨go ?_, ⟨⟩⟩, ⟨⟩⟩
 exact mP (ref03_Delete_walk q7) ⟨cA, ⟨⟩⟩
 refine cC h rfl (fun c8 h=>go ?_) fun c8 h=>cE
 exact cP h ref04_Drop_walk fun y13 h=>cE
def ref03_Crash_l2 (d : Disk) (keeps : (List Int)) (a1 a2 : Int) (a3 : (List File)) : Option ((Int × Int × (List File)) ⊕ (Int × (List File))) :=
 if (decide (a1 < (d.Files.length : Int))) then
 (ix d.Files a1).bind fun x1 =>
 ((if (decide (a1 < (keeps.length : Int))) then
 (ix keeps a1).bind fun x2 =>
 some (decide (x2 > 0))
 else
 some false).bind fun (y1 : Bool) =>
 if y1 then
 (ix keeps a1).bind fun x3 =>
 some x3
 else
 some 0).bind fun (y2 : Int) =>
 need ((0 : Int) ≤ (0 : Int) ∧ 0 ≤ (if (decide (y2 > (x1.Wait.length : Int))) then (x1.Wait.length : Int) else y2) ∧ (if (decide (y2 > (x1.Wait.length : Int))) then (x1.Wait.length : Int) else y2) ≤ (x1.Wait.length : Int)) <|
 need (x1.Safe.length + (cut x1.Wait 0 (if (decide (y2 > (x1.Wait.length : Int))) then (x1.Wait.length : Int) else y2)).length ≤ 9223372036854775807) <|
 need ((a3.length + 1) * 48 ≤ 140737488355328) <|
 some (.inl ((IntKind.i64.wrap (a1 + 1)), (IntKind.i64.wrap ((IntKind.i64.wrap (a2 + (x1.Wait.length : Int))) - (if (decide (y2 > (x1.Wait.length : Int))) then (x1.Wait.length : Int) else y2))), (a3 ++ [({ Name := x1.Name, Safe := (x1.Safe ++ (cut x1.Wait 0 (if (decide (y2 > (x1.Wait.length : Int))) then (x1.Wait.length : Int) else y2))), Wait := [] } : File)])))
 else
 some (.inr (a2, a3))
def ref03_Crash (d : Disk) (keeps : (List Int)) : Option (Disk) :=
 (loop (fun (s1 : Int × Int × (List File)) => ref03_Crash_l2 d keeps s1.1 s1.2.1 s1.2.2) ((0 : Int), d.Room, ([] : (List File)))).bind fun (y1 : Int × (List File)) =>
 some ({ Files := y1.2, Room := y1.1, Fuse := (-1), Off := false } : Disk)
theorem ref03_Crash_walk {d keeps r} (h : ref03_Crash d keeps = some r) : pP 82 [.agg (encDisk d), sL (encI .i64) keeps] (.agg (encDisk r)) := by
 unfold ref03_Crash at h
 refine pW0 Tryz.func82 rfl fun g=>go ?_
 refine lQ h (fun s1=>⟨72, 0, ofRegs [(1, sL (encI .i64) keeps), (2, .ptr 0 0), (4, .ptr 1 0), (5, .ptr 2 0), (6, vI s1.1)], [.var 31 (encDisk d), .var 31 [vN, vI 0, vI 0, vB false], .var 31 [.row 3 ((List.map encFile s1.2.2).length), vI s1.2.1, vI (-1), vB false], .row 64 3 (List.map encFile s1.2.2)]⟩) (aO (.exit 0) (fun y1=>⟨72, 0, ofRegs [(4, .ptr 1 0), (5, .ptr 2 0)], [.gone, .var 31 [vN, vI 0, vI 0, vB false], .var 31 [.row 3 ((List.map encFile y1.2).length), vI y1.1, vI (-1), vB false], .row 64 3 (List.map encFile y1.2)]⟩)) (Weak.trans (weak_nilcell 2 0 64 3 rfl rfl) (wF (.s (.s (.cons (.var (.cons (.same (show (.row 3 0 : AV) = (.row 3 ((List.map encFile []).length) : AV) from congrArg (AV.row 3) (by simp))) (.cons (.same rfl) (.cons (.same rfl) (.cons (.same rfl) (.nil)))))) .rest))) (.all rfl))) ?_ <|bO fun y1 _ h w=>wk w eF
 rintro y1 ⟨a1,a2,a3⟩ v1 h r
 replace h : ref03_Crash_l2 d keeps a1 a2 a3 = some v1 := h
 unfold ref03_Crash_l2 at h
 dsimp only
 refine go ?_
 refine ⟨_, (len_map _ _).symm, go ?_⟩
 refine cC h rfl (fun c1 h=>go ?_) fun c1 h=>go ?_
 refine bD h fun x1 q1 h=>⟨(ix_some q1).1, _, map_get encFile (ix_some q1).2, rfl, gN 2 ?_⟩
 refine k1 h (fun y2=>⟨72, 0, ofRegs [(1, sL (encI .i64) keeps), (2, .ptr 0 0), (4, .ptr 1 0), (5, .ptr 2 0), (6, vI a1), (7, .ptr 4 0), (8, vI y2)], [.var 31 (encDisk d), .var 31 [vN, vI 0, vI 0, vB false], .var 31 [.row 3 ((List.map encFile a3).length), vI a2, vI (-1), vB false], .row 64 3 (List.map encFile a3), .var 64 (encFile x1)]⟩) (fun y2 h=>(k1 h (fun y3=>⟨72, 0, ofRegs [(1, sL (encI .i64) keeps), (2, .ptr 0 0), (4, .ptr 1 0), (5, .ptr 2 0), (6, vI a1), (7, .ptr 4 0), (8, vI 0), (34, vB y3)], [.var 31 (encDisk d), .var 31 [vN, vI 0, vI 0, vB false], .var 31 [.row 3 ((List.map encFile a3).length), vI a2, vI (-1), vB false], .row 64 3 (List.map encFile a3), .var 64 (encFile x1)]⟩) (fun y3 h=>go ?_) fun y3 h=>(cC h rfl (fun c2 h=>go ?_) fun c2 h=>cE))) fun y2 h=>(k0 ⟨72, 0, ofRegs [(1, sL (encI .i64) keeps), (2, .ptr 0 0), (4, .ptr 1 0), (5, .ptr 2 0), (6, vI a1), (7, .ptr 4 0), (8, vI (if (decide (y2 > (x1.Wait.length : Int))) then (x1.Wait.length : Int) else y2))], [.var 31 (encDisk d), .var 31 [vN, vI 0, vI 0, vB false], .var 31 [.row 3 ((List.map encFile a3).length), vI a2, vI (-1), vB false], .row 64 3 (List.map encFile a3), .var 64 (encFile x1)]⟩ (go ?_) (go ?_))
 refine ⟨_, (len_map _ _).symm, go ?_⟩
 refine cM h (fun c3 h=>go ?_) fun c3 h=>cE
 refine bD h fun x2 q2 h=>⟨(ix_some q2).1, _, map_get (encI .i64) (ix_some q2).2, rfl, cE⟩
 refine bD h fun x3 q3 h=>⟨(ix_some q3).1, _, map_get (encI .i64) (ix_some q3).2, rfl, cE⟩
 refine ⟨(x1.Wait.length : Int), rfl, go ?_⟩
 refine cD (decide (y2 > (x1.Wait.length : Int))) rfl (fun i1=>go ?_) fun i1=>cI
 refine ⟨(x1.Wait.length : Int), rfl, cI⟩
 refine ⟨(x1.Wait.length : Int), rfl, go ?_⟩
 refine Draw.one 15 (.take 0 (.take 1 (.take 2 (.take 3 (.take 4 (.take 5 (.take 6 (.take 7 (.take 8 (.take 9 (.take 10 (.take 11 (.alt 12 (.alt 13 (.take 14 (.fin)) (.nil)) (.nil)))))))))))))) [] (by kernel_rfl) (go ?_)
 refine nD h fun p1 h=>⟨p1, bs (cut x1.Wait 0 (if (decide (y2 > (x1.Wait.length : Int))) then (x1.Wait.length : Int) else y2)), bs_cut _ _ _, go ?_⟩
 refine nD h fun p2 h=>⟨p2, _, bs_append _ _, ⟨List.map encFile [({ Name := x1.Name, Safe := (x1.Safe ++ (cut x1.Wait 0 (if (decide (y2 > (x1.Wait.length : Int))) then (x1.Wait.length : Int) else y2))), Wait := [] } : File)], rfl, ⟨rfl, rfl, go ?_⟩, ⟨⟩⟩, ⟨⟩⟩
 refine nD h fun p3 h=>⟨by simp only [List.length_map]; exact p3, List.map encFile (a3 ++ [({ Name := x1.Name, Safe := (x1.Safe ++ (cut x1.Wait 0 (if (decide (y2 > (x1.Wait.length : Int))) then (x1.Wait.length : Int) else y2))), Wait := [] } : File)]), map_app encFile _ _ rfl rfl, cN⟩
 cases h
 obtain rfl := r _ rfl
 exact ⟨rfl, (wF (.g .rest) (.all rfl))⟩
def ref08_Crash (x : Store) (keeps : (List Int)) : Option (Store × Int) :=
 (ref03_Crash x.D keeps).bind fun y1 =>
 (ref08_Open y1).bind fun y2 =>
 some (y2.1, y2.2)
theorem ref08_Crash_walk {x keeps r} (h : ref08_Crash x keeps = some r) : pP 33 [.agg (encStore x), sL (encI .i64) keeps] (.tup [.agg (encStore r.1), vI r.2]) := by
 unfold ref08_Crash at h
 refine pW0 Tryz.func33 rfl fun g=>go ?_
 refine cP h ref03_Crash_walk fun y1 h=>go ?_
 exact cP h ref08_Open_walk fun y2 h=>eF
def ref03_Arm (d : Disk) (fuse : Int) : Option (Disk) :=
 some ({ Files := d.Files, Room := d.Room, Fuse := (if (decide (fuse < 0)) then (-1) else fuse), Off := d.Off } : Disk)
theorem ref03_Arm_walk {d fuse r} (h : ref03_Arm d fuse = some r) : pP 83 [.agg (encDisk d), vI fuse] (.agg (encDisk r)) := by
 unfold ref03_Arm at h
 refine pW0 Tryz.func83 rfl fun g=>gN 4 ?_
 refine k0 ⟨11, 0, ofRegs [(2, .ptr 0 0), (4, .ptr 1 0)], [.var 31 [sL encFile d.Files, vI d.Room, vI (if (decide (fuse < 0)) then (-1) else fuse), vB d.Off], .var 31 [vN, vI 0, vI 0, vB false]]⟩ (go ?_) eF
 refine cD (decide (fuse < 0)) rfl (fun i1=>go ?_) fun i1=>go ?_
 exact ⟨rfl, (wF (.cons (.var (.cons (.same rfl) (.cons (.same rfl) (.cons (.same (show (vI (-1) : AV) = (vI (if (decide (fuse < 0)) then (-1) else fuse) : AV) from by first | (simp [i1]; done) | (simp only [i1, Bool.or_true, Bool.true_or, Bool.false_or, Bool.or_false, Bool.and_true, Bool.true_and, Bool.and_false, Bool.false_and, Bool.not_true, Bool.not_false, if_true, if_false, Bool.false_eq_true]; done) | (exfalso; revert i1; simp +contextual; done))) (.cons (.same rfl) (.nil)))))) .rest) (.all rfl))⟩
 exact ⟨rfl, (wF (.cons (.var (.cons (.same rfl) (.cons (.same rfl) (.cons (.same (show (vI fuse : AV) = (vI (if (decide (fuse < 0)) then (-1) else fuse) : AV) from by first | (simp [i1]; done) | (simp only [i1, Bool.or_true, Bool.true_or, Bool.false_or, Bool.or_false, Bool.and_true, Bool.true_and, Bool.and_false, Bool.false_and, Bool.not_true, Bool.not_false, if_true, if_false, Bool.false_eq_true]; done) | (exfalso; revert i1; simp +contextual; done))) (.cons (.same rfl) (.nil)))))) .rest) (.all rfl))⟩
def ref08_Arm (x : Store) (fuse : Int) : Option (Store) :=
 (ref03_Arm x.D fuse).bind fun y1 =>
 some ({ D := y1, From := x.From, Seg := x.Seg, Run := x.Run, S := x.S, Down := x.Down } : Store)
theorem ref08_Arm_walk {x fuse r} (h : ref08_Arm x fuse = some r) : pP 34 [.agg (encStore x), vI fuse] (.agg (encStore r)) := by
 unfold ref08_Arm at h
 refine pW0 Tryz.func34 rfl fun g=>go ?_
 exact cP h ref03_Arm_walk fun y1 h=>eF
def slices_Equal_File_l2 (s1 s2 : (List File)) (a1 : Int) : Option ((Int) ⊕ ((Unit) ⊕ (Unit))) :=
 if (decide (a1 < (s1.length : Int))) then
 (ix s1 a1).bind fun x1 =>
 (ix s2 a1).bind fun x2 =>
 if (!(decide (x1 = x2))) then some (.inr (.inl ())) else
 some (.inl (IntKind.i64.wrap (a1 + 1)))
 else
 some (.inr (.inr ()))
def slices_Equal_File (s1 s2 : (List File)) : Option (Bool) :=
 if (!(decide ((s1.length : Int) = (s2.length : Int)))) then some false else
 (loop (fun (s3 : Int) => slices_Equal_File_l2 s1 s2 s3) (0 : Int)).bind fun (y1 : (Unit) ⊕ (Unit)) =>
 match y1 with
 | (.inl v1) =>
  some false
 | (.inr v2) =>
 some true
theorem slices_Equal_File_walk {s1 s2 r} (h : slices_Equal_File s1 s2 = some r) : pP 130 [sL encFile s1, sL encFile s2] (vB r) := by
 unfold slices_Equal_File at h
 refine pW0 Tryz.func130 rfl fun g=>go ?_
 refine ⟨_, (len_map _ _).symm, _, (len_map _ _).symm, go ?_⟩
 refine cC h rfl (fun c1 h=>eF) fun c1 h=>go ?_
 refine ⟨_, (len_map _ _).symm, go ?_⟩
 refine lQ h (fun s3=>⟨26, 0, ofRegs [(0, sL encFile s1), (1, sL encFile s2), (12, vI (s1.length : Int)), (13, vI s3)], []⟩) (Sum.elim (aO .ret (fun _=>⟨26, 0, ofRegs [(4, vB false)], []⟩)) (aO (.exit 0) (fun _=>⟨26, 0, ofRegs [], []⟩))) wA ?_ <|bE (bO fun v1 _ h w=>eFw) <|bO fun v2 _ h w=>wk w eF
 rintro y1 a1 v3 h r
 replace h : slices_Equal_File_l2 s1 s2 a1 = some v3 := h
 unfold slices_Equal_File_l2 at h
 refine go ?_
 refine cC h rfl (fun c3 h=>go ?_) fun c3 h=>xE
 refine Draw.one 9 (.take 0 (.take 1 (.take 2 (.take 3 (.take 4 (.take 5 (.take 6 (.take 7 (.take 8 (.fin)))))))))) [] (by kernel_rfl) (go ?_)
 refine bD h fun x1 q1 h=>⟨(ix_some q1).1, _, map_get encFile (ix_some q1).2, rfl, go ?_⟩
 refine bD h fun x2 q2 h=>⟨(ix_some q2).1, _, map_get encFile (ix_some q2).2, rfl, (!(decide (x1 = x2))), congrArg Bool.not (eq_File _ _), go ?_⟩
 exact cC h rfl (fun c4 h=>xE) fun c4 h=>cN
def disk_Same (a b : Disk) : Option (Bool) :=
 if (decide (a.Room = b.Room)) then
 if (decide (a.Fuse = b.Fuse)) then
 if (a.Off == b.Off) then
 (slices_Equal_File a.Files b.Files).bind fun y1 =>
 some y1
 else
 some false
 else
 some false
 else
 some false
theorem disk_Same_walk {a b r} (h : disk_Same a b = some r) : pP 84 [.agg (encDisk a), .agg (encDisk b)] (vB r) := by
 unfold disk_Same at h
 refine pW0 Tryz.func84 rfl fun g=>go ?_
 refine cM h (fun c1 h=>go ?_) fun c1 h=>eF
 refine cM h (fun c2 h=>go ?_) fun c2 h=>eF
 refine cM h (fun c3 h=>go ?_) fun c3 h=>eF
 exact cP h slices_Equal_File_walk fun y1 h=>eF
def slices_Equal_Pair_l2 (s1 s2 : (List Pair)) (a1 : Int) : Option ((Int) ⊕ ((Unit) ⊕ (Unit))) :=
 if (decide (a1 < (s1.length : Int))) then
 (ix s1 a1).bind fun x1 =>
 (ix s2 a1).bind fun x2 =>
 if (!(decide (x1 = x2))) then some (.inr (.inl ())) else
 some (.inl (IntKind.i64.wrap (a1 + 1)))
 else
 some (.inr (.inr ()))
def slices_Equal_Pair (s1 s2 : (List Pair)) : Option (Bool) :=
 if (!(decide ((s1.length : Int) = (s2.length : Int)))) then some false else
 (loop (fun (s3 : Int) => slices_Equal_Pair_l2 s1 s2 s3) (0 : Int)).bind fun (y1 : (Unit) ⊕ (Unit)) =>
 match y1 with
 | (.inl v1) =>
  some false
 | (.inr v2) =>
 some true
theorem slices_Equal_Pair_walk {s1 s2 r} (h : slices_Equal_Pair s1 s2 = some r) : pP 131 [sL encPair s1, sL encPair s2] (vB r) := by
 unfold slices_Equal_Pair at h
 refine pW0 Tryz.func131 rfl fun g=>go ?_
 refine ⟨_, (len_map _ _).symm, _, (len_map _ _).symm, go ?_⟩
 refine cC h rfl (fun c1 h=>eF) fun c1 h=>go ?_
 refine ⟨_, (len_map _ _).symm, go ?_⟩
 refine lQ h (fun s3=>⟨26, 0, ofRegs [(0, sL encPair s1), (1, sL encPair s2), (12, vI (s1.length : Int)), (13, vI s3)], []⟩) (Sum.elim (aO .ret (fun _=>⟨26, 0, ofRegs [(4, vB false)], []⟩)) (aO (.exit 0) (fun _=>⟨26, 0, ofRegs [], []⟩))) wA ?_ <|bE (bO fun v1 _ h w=>eFw) <|bO fun v2 _ h w=>wk w eF
 rintro y1 a1 v3 h r
 replace h : slices_Equal_Pair_l2 s1 s2 a1 = some v3 := h
 unfold slices_Equal_Pair_l2 at h
 refine go ?_
 refine cC h rfl (fun c3 h=>go ?_) fun c3 h=>xE
 refine Draw.one 9 (.take 0 (.take 1 (.take 2 (.take 3 (.take 4 (.take 5 (.take 6 (.take 7 (.take 8 (.fin)))))))))) [] (by kernel_rfl) (go ?_)
 refine bD h fun x1 q1 h=>⟨(ix_some q1).1, _, map_get encPair (ix_some q1).2, rfl, go ?_⟩
 refine bD h fun x2 q2 h=>⟨(ix_some q2).1, _, map_get encPair (ix_some q2).2, rfl, (!(decide (x1 = x2))), congrArg Bool.not (eq_Pair _ _), go ?_⟩
 exact cC h rfl (fun c4 h=>xE) fun c4 h=>cN
def batch_Same (a b : State) : Option (Bool) :=
 (slices_Equal_Pair a.Data b.Data).bind fun y1 =>
 if y1 then
 (slices_Equal_Pair a.Toks b.Toks).bind fun y2 =>
 some y2
 else
 some false
theorem batch_Same_walk {a b r} (h : batch_Same a b = some r) : pP 85 [.agg (encState a), .agg (encState b)] (vB r) := by
 unfold batch_Same at h
 refine pW0 Tryz.func85 rfl fun g=>go ?_
 refine cP h slices_Equal_Pair_walk fun y1 h=>go ?_
 refine cM h (fun c1 h=>go ?_) fun c1 h=>eF
 exact cP h slices_Equal_Pair_walk fun y2 h=>eF
def kv_Same (a b : Store) : Option (Bool) :=
 (disk_Same a.D b.D).bind fun y1 =>
 if y1 then
 if (decide (a.From = b.From)) then
 if (decide (a.Seg = b.Seg)) then
 if (decide (a.Run = b.Run)) then
 (batch_Same a.S b.S).bind fun y2 =>
 if y2 then some (a.Down == b.Down) else
 some false
 else
 some false
 else
 some false
 else
 some false
 else
 some false
theorem kv_Same_walk {a b r} (h : kv_Same a b = some r) : pP 35 [.agg (encStore a), .agg (encStore b)] (vB r) := by
 unfold kv_Same at h
 refine pW0 Tryz.func35 rfl fun g=>go ?_
 refine cP h disk_Same_walk fun y1 h=>go ?_
 refine cM h (fun c1 h=>go ?_) fun c1 h=>eF
 refine cM h (fun c2 h=>go ?_) fun c2 h=>eF
 refine cM h (fun c5 h=>go ?_) fun c5 h=>eF
 refine cM h (fun c6 h=>go ?_) fun c6 h=>eF
 refine cP h batch_Same_walk fun y2 h=>go ?_
 exact cM h (fun c7 h=>eF) fun c7 h=>eF
def law08_KvDoes (with_ : KvDoesIn) : Option (Bool) :=
 law08_shown.bind fun y1 =>
 (law08_small with_.X).bind fun y2 =>
 if ((!y1) || (!y2)) then some y1 else
 (kv_Commit with_.X with_.B).bind fun y4 =>
 (ref08_Commit with_.X with_.B).bind fun y5 =>
 (kv_Check with_.X).bind fun y6 =>
 (ref08_Check with_.X).bind fun y7 =>
 (kv_Crash with_.X with_.Keeps).bind fun y8 =>
 (ref08_Crash with_.X with_.Keeps).bind fun y9 =>
 ((ref08_Same y4.1 y5.1).bind fun y10 =>
 if y10 then
 (ref08_Same y6.1 y7.1).bind fun y11 =>
 if y11 then
 (ref08_Same y8.1 y9.1).bind fun y12 =>
 if y12 then
 (kv_Arm with_.X with_.Fuse).bind fun y13 =>
 (ref08_Arm with_.X with_.Fuse).bind fun y14 =>
 (ref08_Same y13 y14).bind fun y15 =>
 some y15
 else
 some false
 else
 some false
 else
 some false).bind fun (y16 : Bool) =>
 if y16 then
 if (decide (y4.2 = y5.2)) then
 if (decide (y6.2 = y7.2)) then
 if (decide (y8.2 = y9.2)) then
 (kv_Same with_.X with_.Other).bind fun y18 =>
 (ref08_Same with_.X with_.Other).bind fun y20 =>
 if (y18 == y20) then
 (kv_Same with_.X with_.X).bind fun y22 =>
 some y22
 else
 some false
 else
 some false
 else
 some false
 else
 some false
 else
 some false
theorem law08_KvDoes_walk {with_ r} (h : law08_KvDoes with_ = some r) : pP 9 [.agg (encKvDoesIn with_)] (vB r) := by
 unfold law08_KvDoes at h
 refine pW0 Tryz.func9 rfl fun g=>go ?_
 refine cP h law08_shown_walk fun y1 h=>go ?_
 refine cP h law08_small_walk fun y2 h=>gN 1 ?_
 refine k0 ⟨129, 0, ofRegs [(3, .ptr 1 0), (4, .ptr 2 0), (5, sL (encI .i64) with_.Keeps), (6, vI with_.Fuse), (7, .ptr 3 0), (8, vB y1), (41, vB ((!y1) || (!y2)))], [.gone, .var 38 (encStore with_.X), .var 25 (encBatch with_.B), .var 38 (encStore with_.Other)]⟩ (go ?_) ((cC h rfl (fun c1 h=>eF) fun c1 h=>go ?_))
 refine cK (!y1) (fun i1=>go ?_) fun i1=>go ?_
 exact ⟨rfl, (wF (.g .rest) (.s (.s (.s (.s (.s (.s (.q (.all rfl)))))))))⟩
 exact ⟨rfl, (wF (.g .rest) (.s (.s (.s (.s (.s (.s (.q (.all rfl)))))))))⟩
 refine cP h kv_Commit_walk fun y4 h=>go ?_
 refine cP h ref08_Commit_walk fun y5 h=>go ?_
 refine cP h kv_Check_walk fun y6 h=>go ?_
 refine cP h ref08_Check_walk fun y7 h=>go ?_
 refine cP h kv_Crash_walk fun y8 h=>go ?_
 refine cP h ref08_Crash_walk fun y9 h=>gN 0 ?_
 refine k1 h (fun y10=>⟨129, 0, ofRegs [(3, .ptr 1 0), (7, .ptr 3 0), (11, vI y4.2), (13, vI y5.2), (15, vI y6.2), (17, vI y7.2), (19, vI y8.2), (21, vI y9.2), (22, vB y10)], [.gone, .var 38 (encStore with_.X), .gone, .var 38 (encStore with_.Other)]⟩) (fun y10 h=>go ?_) fun y10 h=>go ?_
 refine Draw.one 23 (.take 0 (.take 1 (.alt 2 (.take 3 (.take 4 (.take 5 (.alt 6 (.take 7 (.take 8 (.take 9 (.take 10 (.alt 11 (.take 12 (.take 13 (.take 14 (.take 15 (.take 17 (.take 18 (.alt 16 (.alt 19 (.alt 20 (.take 21 (.take 22 (.fin))) (.nil)) (.nil)) (.nil)))))))) (.nil)))))) (.nil))))) (.nil)))) [] (by kernel_rfl) ⟨go ?_, ⟨⟩⟩
 refine cP h ref08_Same_walk fun y11 h=>go ?_
 refine cM h (fun c2 h=>⟨go ?_, ⟨⟩⟩) fun c2 h=>⟨⟨⟨⟨⟨go ?_, ⟨⟩⟩, ⟨⟩⟩, ⟨⟩⟩, ⟨⟩⟩, ⟨⟩⟩
 refine cP h ref08_Same_walk fun y12 h=>go ?_
 refine cM h (fun c3 h=>⟨go ?_, ⟨⟩⟩) fun c3 h=>⟨⟨⟨⟨go ?_, ⟨⟩⟩, ⟨⟩⟩, ⟨⟩⟩, ⟨⟩⟩
 refine cP h ref08_Same_walk fun y13 h=>go ?_
 refine cM h (fun c4 h=>⟨go ?_, ⟨⟩⟩) fun c4 h=>⟨⟨⟨go ?_, ⟨⟩⟩, ⟨⟩⟩, ⟨⟩⟩
 refine cP h kv_Arm_walk fun y14 h=>⟨go ?_, ⟨⟩⟩
 refine cP h ref08_Arm_walk fun y15 h=>⟨go ?_, ⟨⟩⟩
 refine cP h ref08_Same_walk fun y16 h=>go ?_
 cases h
 exact ⟨rfl, (wF (.s (.s (.g .rest))) (.all rfl))⟩
 cases h
 exact ⟨rfl, (wF (.s (.s (.g .rest))) (.all rfl))⟩
 cases h
 exact ⟨rfl, (wF (.s (.s (.g .rest))) (.all rfl))⟩
 cases h
 exact ⟨rfl, (wF (.s (.s (.g .rest))) (.all rfl))⟩
 refine Draw.one 31 (.take 0 (.take 1 (.take 2 (.take 3 (.take 4 (.take 5 (.take 6 (.take 7 (.take 8 (.take 9 (.take 10 (.take 11 (.take 12 (.take 13 (.take 14 (.take 15 (.take 16 (.take 17 (.take 18 (.take 20 (.take 21 (.alt 19 (.alt 22 (.take 23 (.take 24 (.take 25 (.take 26 (.take 27 (.alt 28 (.take 29 (.take 30 (.fin))) (.nil))))))) (.nil)) (.nil))))))))))))))))))))))) [] (by kernel_rfl) (go ?_)
 refine cM h (fun c5 h=>go ?_) fun c5 h=>⟨⟨⟨eF, ⟨⟩⟩, ⟨⟩⟩, ⟨⟩⟩
 refine cM h (fun c6 h=>go ?_) fun c6 h=>⟨⟨⟨eF, ⟨⟩⟩, ⟨⟩⟩, ⟨⟩⟩
 refine cM h (fun c7 h=>go ?_) fun c7 h=>⟨⟨⟨eF, ⟨⟩⟩, ⟨⟩⟩, ⟨⟩⟩
 refine cM h (fun c8 h=>⟨go ?_, ⟨⟩⟩) fun c8 h=>⟨⟨⟨eF, ⟨⟩⟩, ⟨⟩⟩, ⟨⟩⟩
 refine cP h kv_Same_walk fun y18 h=>⟨go ?_, ⟨⟩⟩
 refine cP h ref08_Same_walk fun y20 h=>go ?_
 refine cM h (fun c9 h=>⟨go ?_, ⟨⟩⟩) fun c9 h=>⟨eF, ⟨⟩⟩
 exact cP h kv_Same_walk fun y22 h=>eF
end
end Go.Ab
