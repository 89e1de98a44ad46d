/- The program's functions as plain Lean functions, and that the program comes to what they come to. Printed by a program of this session. -/
import Derived.Test.YtgmejofagmfcfaaGreatDoorW1
namespace Go.Ab
open Go.Proofs
set_option linter.unusedVariables false
set_option linter.unusedSimpArgs false
set_option maxRecDepth 100000
set_option maxHeartbeats 4000000
noncomputable section
def batch_Pairs_l2 (s : State) (a1 : Int) (a2 : (List Pair)) : Option ((Int × (List Pair)) ⊕ ((List Pair))) :=
 if (decide (a1 < (s.Data.length : Int))) then
 (ix s.Data a1).bind fun x1 =>
 need (([100] : Str).length + x1.Key.length ≤ 9223372036854775807) <|
 need ((a2.length + 1) * 32 ≤ 140737488355328) <|
 some (.inl ((IntKind.i64.wrap (a1 + 1)), (a2 ++ [({ Key := ([100] ++ x1.Key), Val := x1.Val } : Pair)])))
 else
 some (.inr a2)
def batch_Pairs_l4 (s : State) (a1 : Int) (a2 : (List Pair)) : Option ((Int × (List Pair)) ⊕ ((List Pair))) :=
 if (decide (a1 < (s.Toks.length : Int))) then
 (ix s.Toks a1).bind fun x1 =>
 need (([116] : Str).length + x1.Key.length ≤ 9223372036854775807) <|
 need ((a2.length + 1) * 32 ≤ 140737488355328) <|
 some (.inl ((IntKind.i64.wrap (a1 + 1)), (a2 ++ [({ Key := ([116] ++ x1.Key), Val := x1.Val } : Pair)])))
 else
 some (.inr a2)
def batch_Pairs (s : State) : Option ((List Pair)) :=
 (loop (fun (s1 : Int × (List Pair)) => batch_Pairs_l2 s s1.1 s1.2) ((0 : Int), ([] : (List Pair)))).bind fun (y1 : (List Pair)) =>
 (loop (fun (s2 : Int × (List Pair)) => batch_Pairs_l4 s s2.1 s2.2) ((0 : Int), y1)).bind fun (y2 : (List Pair)) =>
 some y2
theorem batch_Pairs_walk {s r} (h : batch_Pairs s = some r) : pP 69 [.agg (encState s)] (sL encPair r) := by
 unfold batch_Pairs at h
 refine pW0 Tryz.func69 rfl fun g=>go ?_
 refine ⟨_, (len_map _ _).symm, go ?_⟩
 refine lQ h (fun s1=>⟨43, 0, ofRegs [(1, .ptr 0 0), (3, .row 1 ((List.map encPair s1.2).length)), (9, sL encPair s.Data), (10, vI (s.Data.length : Int)), (11, vI s1.1)], [.var 36 (encState s), .row 90 2 (List.map encPair s1.2)]⟩) (aO (.exit 0) (fun y1=>⟨43, 0, ofRegs [(1, .ptr 0 0), (3, .row 1 ((List.map encPair y1).length))], [.var 36 (encState s), .row 90 2 (List.map encPair y1)]⟩)) (Weak.trans (weak_nil 3 90 2 rfl) wI) ?_ <|bO fun y1 _ h w=>wk w (go ?_)
 rintro y1 ⟨a1,a2⟩ v1 h r
 replace h : batch_Pairs_l2 s a1 a2 = some v1 := h
 unfold batch_Pairs_l2 at h
 dsimp only
 refine go ?_
 refine cC h rfl (fun c1 h=>go ?_) fun c1 h=>xE
 refine bD h fun x1 q1 h=>⟨(ix_some q1).1, _, map_get encPair (ix_some q1).2, rfl, go ?_⟩
 refine nD h fun p1 h=>⟨p1, _, bs_append _ _, List.map encPair [({ Key := ([100] ++ x1.Key), Val := x1.Val } : Pair)], rfl, rfl, rfl, go ?_⟩
 refine nD h fun p2 h=>⟨by simp only [List.length_map]; exact p2, List.map encPair (a2 ++ [({ Key := ([100] ++ x1.Key), Val := x1.Val } : Pair)]), map_app encPair _ _ rfl rfl, cN⟩
 refine ⟨_, (len_map _ _).symm, go ?_⟩
 refine lQ h (fun s2=>⟨43, 0, ofRegs [(3, .row 1 ((List.map encPair s2.2).length)), (26, sL encPair s.Toks), (27, vI (s.Toks.length : Int)), (28, vI s2.1)], [.gone, .row 90 2 (List.map encPair s2.2)]⟩) (aO (.exit 2) (fun y2=>⟨43, 0, ofRegs [(3, .row 1 ((List.map encPair y2).length))], [.gone, .row 90 2 (List.map encPair y2)]⟩)) (wF (.g .rest) (.all rfl)) ?_ <|bO fun y2 _ h w=>wk w eF
 rintro y2 ⟨a3,a4⟩ v2 h r
 replace h : batch_Pairs_l4 s a3 a4 = some v2 := h
 unfold batch_Pairs_l4 at h
 dsimp only
 refine go ?_
 refine cC h rfl (fun c2 h=>go ?_) fun c2 h=>xE
 refine bD h fun x2 q2 h=>⟨(ix_some q2).1, _, map_get encPair (ix_some q2).2, rfl, go ?_⟩
 refine nD h fun p3 h=>⟨p3, _, bs_append _ _, List.map encPair [({ Key := ([116] ++ x2.Key), Val := x2.Val } : Pair)], rfl, rfl, rfl, go ?_⟩
 refine nD h fun p4 h=>⟨by simp only [List.length_map]; exact p4, List.map encPair (a4 ++ [({ Key := ([116] ++ x2.Key), Val := x2.Val } : Pair)]), map_app encPair _ _ rfl rfl, cN⟩
def run_Bytes_l2 (l : (List Pair)) (a1 : Int) (a2 : Str) : Option ((Int × Str) ⊕ (Str)) :=
 if (decide (a1 < (l.length : Int))) then
 (ix l a1).bind fun x1 =>
 (dec_Text x1.Key).bind fun y1 =>
 (dec_Text x1.Val).bind fun y2 =>
 need (y1.length + y2.length ≤ 9223372036854775807) <|
 need (0 < (y1 ++ y2).length ∧ a2.length + (y1 ++ y2).length ≤ 140737488355328) <|
 some (.inl ((IntKind.i64.wrap (a1 + 1)), (a2 ++ (y1 ++ y2))))
 else
 some (.inr a2)
def run_Bytes (l : (List Pair)) : Option (Str × Int) :=
 (run_may l).bind fun y1 =>
 if (!y1) then some ([], 1) else
 (dec_Num (IntKind.u64.wrap (l.length : Int))).bind fun y2 =>
 need (0 < y2.length ∧ ([] : Str).length + y2.length ≤ 140737488355328) <|
 (loop (fun (s1 : Int × Str) => run_Bytes_l2 l s1.1 s1.2) ((0 : Int), (([] : Str) ++ y2))).bind fun (y3 : Str) =>
 need (0 < y3.length) <|
 (sum_Seal y3).bind fun y5 =>
 some (y5, 0)
theorem run_Bytes_walk {l r} (h : run_Bytes l = some r) : pP 68 [sL encPair l] (.tup [vS r.1, vI r.2]) := by
 unfold run_Bytes at h
 refine pW (G := ⟨tys, [98, 100], [], []⟩) tyOk mixed Tryz.func68 rfl fun g=>go ?_
 refine cP h run_may_walk fun y1 h=>go ?_
 refine cC h rfl (fun c1 h=>eF) fun c1 h=>gN 4 ?_
 refine Tri.weak (show Weak _ ⟨32, 0, ofRegs [(0, sL encPair l), (2, vS []), (3, vI 0), (4, .ptr 0 0), (7, sL encPair l), (8, vB y1), (9, vB false)], [.var 171 [.v (.pointer none), .row 1 ((List.map byteU ([] : Str)).length)], .row 5 1 (List.map byteU ([] : Str))]⟩ from Weak.trans (weak_nilcell 0 1 5 1 rfl rfl) wA) (go ?_)
 refine ⟨_, (len_map _ _).symm, (IntKind.u64.wrap (l.length : Int)), rfl, go ?_⟩
 refine cP h dec_Num_walk fun y2 h=>go ?_
 obtain ⟨p1,h⟩ := need_some h
 refine mC (bwrite_98 (.inl rfl) ([] : Str) y2 p1) [0, 1] (go ?_)
 refine ⟨_, (len_map _ _).symm, go ?_⟩
 refine lQ h (fun s1=>⟨32, 0, ofRegs [(4, .ptr 0 0), (15, sL encPair l), (16, vI (l.length : Int)), (17, vI s1.1)], [.var 171 [.ptr 0 0, .row 1 ((List.map byteU s1.2).length)], .row 5 1 (List.map byteU s1.2)]⟩) (aO (.exit 0) (fun y3=>⟨32, 0, ofRegs [(4, .ptr 0 0)], [.var 171 [.ptr 0 0, .row 1 ((List.map byteU y3).length)], .row 5 1 (List.map byteU y3)]⟩)) wA ?_ <|bO fun y3 _ h w=>wk w (go ?_)
 rintro y3 ⟨a1,a2⟩ v1 h r
 replace h : run_Bytes_l2 l a1 a2 = some v1 := h
 unfold run_Bytes_l2 at h
 dsimp only
 refine go ?_
 refine cC h rfl (fun c2 h=>go ?_) fun c2 h=>xE
 refine bD h fun x1 q1 h=>⟨(ix_some q1).1, _, map_get encPair (ix_some q1).2, rfl, go ?_⟩
 refine Draw.one 8 (.take 0 (.take 1 (.take 3 (.take 4 (.alt 2 (.alt 5 (.take 6 (.alt 7 (.fin) (.nil))) (.nil)) (.nil)))))) [0] (by kernel_rfl) ⟨go ?_, ⟨⟩⟩
 refine cP h dec_Text_walk fun y5 h=>⟨go ?_, ⟨⟩⟩
 refine cP h dec_Text_walk fun y6 h=>go ?_
 refine nD h fun p2 h=>⟨p2, _, bs_append _ _, go ?_, ⟨⟩⟩
 obtain ⟨p3,h⟩ := need_some h
 exact mC (bwrite_98 (.inr rfl) a2 (y5 ++ y6) p3) [0, 1] cN
 obtain ⟨p4,h⟩ := need_some h
 refine mC (bstr_100 (.ptr 0 0) y3 p4) [0, 1] (go ?_)
 exact cP h sum_Seal_walk fun y8 h=>eF
def kv_Manifest (from_ run : Int) : Option (Str) :=
 (dec_Num (IntKind.u64.wrap (if from_ < 0 then 0 else from_))).bind fun y1 =>
 (dec_Num (IntKind.u64.wrap (if run < 0 then 0 else run))).bind fun y2 =>
 need (y1.length + y2.length ≤ 9223372036854775807) <|
 (sum_Seal (y1 ++ y2)).bind fun y4 =>
 some y4
theorem kv_Manifest_walk {from_ run r} (h : kv_Manifest from_ run = some r) : pP 24 [vI from_, vI run] (vS r) := by
 unfold kv_Manifest at h
 refine pW0 Tryz.func24 rfl fun g=>go ?_
 refine ⟨(IntKind.u64.wrap (if from_ < 0 then 0 else from_)), rfl, go ?_⟩
 refine cP h dec_Num_walk fun y1 h=>⟨(IntKind.u64.wrap (if run < 0 then 0 else run)), rfl, go ?_⟩
 refine cP h dec_Num_walk fun y2 h=>go ?_
 refine nD h fun p1 h=>⟨p1, _, bs_append _ _, go ?_⟩
 exact cP h sum_Seal_walk fun y4 h=>eF
def run_Lay (d : Disk) (name s : Str) : Option (Disk × Int) :=
 need (([110, 46] : Str).length + name.length ≤ 9223372036854775807) <|
 ((disk_Find d ([110, 46] ++ name)).bind fun y1 =>
 if y1.2 then
 (disk_Delete d ([110, 46] ++ name)).bind fun y2 =>
 if (!(decide (y2.2 = 0))) then some (.inr (y2.2, y2.1.Files, y2.1.Room, y2.1.Fuse, y2.1.Off)) else
 some (.inl (y2.1.Files, y2.1.Room, y2.1.Fuse, y2.1.Off))
 else
 some (.inl (d.Files, d.Room, d.Fuse, d.Off))).bind fun (y3 : ((List File) × Int × Int × Bool) ⊕ (Int × (List File) × Int × Int × Bool)) =>
 match y3 with
 | (.inl v1) =>
  (disk_Append ({ Files := v1.1, Room := v1.2.1, Fuse := v1.2.2.1, Off := v1.2.2.2 } : Disk) ([110, 46] ++ name) s).bind fun y4 =>
  if (!(decide (y4.2 = 0))) then some (y4.1, y4.2) else
  (disk_Sync y4.1 ([110, 46] ++ name)).bind fun y5 =>
  if (!(decide (y5.2 = 0))) then some (y5.1, y5.2) else
  (disk_Rename y5.1 ([110, 46] ++ name) name).bind fun y6 =>
  some (y6.1, y6.2)
 | (.inr v2) =>
 some (({ Files := v2.2.1, Room := v2.2.2.1, Fuse := v2.2.2.2.1, Off := v2.2.2.2.2 } : Disk), v2.1)
theorem run_Lay_walk {d name s r} (h : run_Lay d name s = some r) : pP 70 [.agg (encDisk d), vS name, vS s] (.tup [.agg (encDisk r.1), vI r.2]) := by
 unfold run_Lay at h
 refine pW0 Tryz.func70 rfl fun g=>go ?_
 refine nD h fun p1 h=>⟨p1, _, bs_append _ _, gN 0 ?_⟩
 refine kS h (Sum.elim (aO .normal (fun v1=>⟨61, 0, ofRegs [(1, vS name), (2, vS s), (3, .ptr 0 0), (6, .ptr 1 0), (8, vS ([110, 46] ++ name))], [.var 31 [sL encFile v1.1, vI v1.2.1, vI v1.2.2.1, vB v1.2.2.2], .var 31 [vN, vI 0, vI 0, vB false]]⟩)) (aO .ret (fun v2=>⟨61, 0, ofRegs [(6, .ptr 1 0), (7, vI v2.1)], [.gone, .var 31 [sL encFile v2.2.1, vI v2.2.2.1, vI v2.2.2.2.1, vB v2.2.2.2.2]]⟩))) (fun y1 h=>go ?_) <|bE (bO fun v1 _ h w=>wk w (go ?_)) <|bO fun v2 _ h w=>eFw
 refine cP h disk_Find_walk fun y2 h=>go ?_
 refine cC h rfl (fun c1 h=>go ?_) fun c1 h=>cE
 refine cP h disk_Delete_walk fun y3 h=>go ?_
 refine cC h rfl (fun c2 h=>go ?_) fun c2 h=>cE
 cases h
 exact ⟨rfl, (wF (.g .rest) (.all rfl))⟩
 refine cP h disk_Append_walk fun y4 h=>go ?_
 refine cC h rfl (fun c3 h=>eF) fun c3 h=>go ?_
 refine cP h disk_Sync_walk fun y5 h=>go ?_
 refine cC h rfl (fun c4 h=>eF) fun c4 h=>go ?_
 exact cP h disk_Rename_walk fun y6 h=>eF
def wal_Drop_l2 (to a1 : Int) (a2 : (List File)) (a3 a4 : Int) (a5 : Bool) : Option ((Int × (List File) × Int × Int × Bool) ⊕ ((Int × (List File) × Int × Int × Bool) ⊕ ((List File) × Int × Int × Bool))) :=
 (if (decide (a1 < to)) then
 (wal_may a1).bind fun y1 =>
 some y1
 else
 some false).bind fun (y2 : Bool) =>
 if y2 then
 ((wal_Name a1).bind fun y3 =>
 (disk_Find ({ Files := a2, Room := a3, Fuse := a4, Off := a5 } : Disk) y3).bind fun y4 =>
 if (!y4.2) then some (.inl (a2, a3, a4, a5)) else
 (disk_Delete ({ Files := a2, Room := a3, Fuse := a4, Off := a5 } : Disk) y3).bind fun y5 =>
 if (!(decide (y5.2 = 0))) then some (.inr (y5.2, y5.1.Files, y5.1.Room, y5.1.Fuse, y5.1.Off)) else
 some (.inl (y5.1.Files, y5.1.Room, y5.1.Fuse, y5.1.Off))).bind fun (y6 : ((List File) × Int × Int × Bool) ⊕ (Int × (List File) × Int × Int × Bool)) =>
 match y6 with
 | (.inl v1) =>
  some (.inl ((IntKind.i64.wrap (a1 + 1)), v1.1, v1.2.1, v1.2.2.1, v1.2.2.2))
 | (.inr v2) =>
 some (.inr (.inl (v2.1, v2.2.1, v2.2.2.1, v2.2.2.2.1, v2.2.2.2.2)))
 else
 some (.inr (.inr (a2, a3, a4, a5)))
def wal_Drop (d : Disk) (from_ to : Int) : Option (Disk × Int) :=
 (loop (fun (s1 : Int × (List File) × Int × Int × Bool) => wal_Drop_l2 to s1.1 s1.2.1 s1.2.2.1 s1.2.2.2.1 s1.2.2.2.2) ((if from_ < 1 then 1 else from_), d.Files, d.Room, d.Fuse, d.Off)).bind fun (y1 : (Int × (List File) × Int × Int × Bool) ⊕ ((List File) × Int × Int × Bool)) =>
 match y1 with
 | (.inl v1) =>
  some (({ Files := v1.2.1, Room := v1.2.2.1, Fuse := v1.2.2.2.1, Off := v1.2.2.2.2 } : Disk), v1.1)
 | (.inr v2) =>
 some (({ Files := v2.1, Room := v2.2.1, Fuse := v2.2.2.1, Off := v2.2.2.2 } : Disk), 0)
theorem wal_Drop_walk {d from_ to r} (h : wal_Drop d from_ to = some r) : pP 123 [.agg (encDisk d), vI from_, vI to] (.tup [.agg (encDisk r.1), vI r.2]) := by
 unfold wal_Drop at h
 refine pW0 Tryz.func123 rfl fun g=>go ?_
 refine lQ h (fun s1=>⟨46, 0, ofRegs [(2, vI to), (3, .ptr 0 0), (6, .ptr 1 0), (8, vI s1.1)], [.var 31 [sL encFile s1.2.1, vI s1.2.2.1, vI s1.2.2.2.1, vB s1.2.2.2.2], .var 31 [vN, vI 0, vI 0, vB false]]⟩) (Sum.elim (aO .ret (fun v1=>⟨46, 0, ofRegs [(6, .ptr 1 0), (7, vI v1.1)], [.gone, .var 31 [sL encFile v1.2.1, vI v1.2.2.1, vI v1.2.2.2.1, vB v1.2.2.2.2]]⟩)) (aO (.exit 0) (fun v2=>⟨46, 0, ofRegs [(3, .ptr 0 0), (6, .ptr 1 0)], [.var 31 [sL encFile v2.1, vI v2.2.1, vI v2.2.2.1, vB v2.2.2.2], .var 31 [vN, vI 0, vI 0, vB false]]⟩))) wA ?_ <|bE (bO fun v1 _ h w=>eFw) <|bO fun v2 _ h w=>wk w eF
 rintro y1 ⟨a1,a2,a3,a4,a5⟩ v3 h r
 replace h : wal_Drop_l2 to a1 a2 a3 a4 a5 = some v3 := h
 unfold wal_Drop_l2 at h
 dsimp only
 refine gN 1 ?_
 refine k1 h (fun y2=>⟨46, 0, ofRegs [(2, vI to), (3, .ptr 0 0), (6, .ptr 1 0), (8, vI a1), (21, vB y2)], [.var 31 [sL encFile a2, vI a3, vI a4, vB a5], .var 31 [vN, vI 0, vI 0, vB false]]⟩) (fun y2 h=>go ?_) fun y2 h=>(cC h rfl (fun c1 h=>gN 1 ?_) fun c1 h=>xE)
 refine cM h (fun c2 h=>go ?_) fun c2 h=>cE
 exact cP h wal_may_walk fun y3 h=>cE
 refine kS h (Sum.elim (aO .normal (fun v4=>⟨46, 0, ofRegs [(2, vI to), (3, .ptr 0 0), (6, .ptr 1 0), (8, vI a1)], [.var 31 [sL encFile v4.1, vI v4.2.1, vI v4.2.2.1, vB v4.2.2.2], .var 31 [vN, vI 0, vI 0, vB false]]⟩)) (aO .ret (fun v5=>⟨46, 0, ofRegs [(6, .ptr 1 0), (7, vI v5.1)], [.gone, .var 31 [sL encFile v5.2.1, vI v5.2.2.1, vI v5.2.2.2.1, vB v5.2.2.2.2]]⟩))) (fun y4 h=>go ?_) <|bE (bO fun v4 _ h w=>wk w cN) <|bO fun v5 _ h w=>xEw
 obtain ⟨y5,q1,h⟩ := bind_some h
 obtain ⟨y6,q2,h⟩ := bind_some h
 refine Draw.many 9 (.take 0 (.take 1 (.alt 2 (.alt 3 (.take 4 (.take 5 (.take 6 (.alt 7 (.alt 8 (.fin) (.nil)) (.nil))))) (.alt 7 (.alt 3 (.take 4 (.take 5 (.take 6 (.alt 8 (.fin) (.nil))))) (.nil)) (.nil))) (.alt 7 (.alt 2 (.alt 3 (.take 4 (.take 5 (.take 6 (.alt 8 (.fin) (.nil))))) (.nil)) (.nil)) (.nil))))) [2, 3, 4, 5, 6, 7] (⟨46, 0, ofRegs [(2, vI to), (3, .ptr 0 0), (6, .ptr 1 0), (8, vI a1), (30, vB y6.2)], [.var 31 [sL encFile a2, vI a3, vI a4, vB a5], .var 31 [vN, vI 0, vI 0, vB false]]⟩) (by kernel_rfl) ⟨go ?_, ⟨⟨go ?_, ⟨⟩⟩, ⟨⟩⟩⟩ (go ?_)
 refine mP (wal_Name_walk q1) ⟨go ?_, ⟨⟨go ?_, ⟨⟩⟩, ⟨⟩⟩⟩
 exact mP (disk_Find_walk q2) ⟨⟨cA, ⟨⟩⟩, ⟨⟩⟩
 exact mP (disk_Find_walk q2) ⟨cA, ⟨⟩⟩
 refine mP (wal_Name_walk q1) ⟨go ?_, ⟨⟩⟩
 exact mP (disk_Find_walk q2) ⟨cA, ⟨⟩⟩
 refine cC h rfl (fun c3 h=>cE) fun c3 h=>go ?_
 obtain ⟨y7,q3,h⟩ := bind_some h
 refine Draw.many 9 (.take 0 (.take 1 (.alt 2 (.alt 3 (.take 4 (.take 5 (.take 6 (.alt 7 (.alt 8 (.fin) (.nil)) (.nil))))) (.alt 7 (.alt 3 (.take 4 (.take 5 (.take 6 (.alt 8 (.fin) (.nil))))) (.nil)) (.nil))) (.alt 7 (.alt 2 (.alt 3 (.take 4 (.take 5 (.take 6 (.alt 8 (.fin) (.nil))))) (.nil)) (.nil)) (.nil))))) [2, 3, 4, 5, 6, 7] (⟨46, 0, ofRegs [(2, vI to), (3, .ptr 0 0), (6, .ptr 1 0), (8, vI a1), (11, .ptr 2 0), (39, vI y7.2)], [.var 31 [sL encFile a2, vI a3, vI a4, vB a5], .var 31 [vN, vI 0, vI 0, vB false], .var 31 (encDisk y7.1)]⟩) (by kernel_rfl) ⟨go ?_, ⟨⟨go ?_, ⟨⟩⟩, ⟨⟩⟩⟩ (go ?_)
 refine mP (wal_Name_walk q1) ⟨go ?_, ⟨⟨go ?_, ⟨⟩⟩, ⟨⟩⟩⟩
 exact mP (disk_Delete_walk q3) ⟨⟨cA, ⟨⟩⟩, ⟨⟩⟩
 exact mP (disk_Delete_walk q3) ⟨cA, ⟨⟩⟩
 refine mP (wal_Name_walk q1) ⟨go ?_, ⟨⟩⟩
 exact mP (disk_Delete_walk q3) ⟨cA, ⟨⟩⟩
 refine cC h rfl (fun c4 h=>go ?_) fun c4 h=>cE
 cases h
 exact ⟨rfl, (wF (.g .rest) (.all rfl))⟩
def kv_old (x : Store) (from_ : Int) : Option ((Store) ⊕ (Store × Int) ⊕ (Store × Int)) :=
 (kv_RunName (IntKind.i64.wrap (x.Run - 1))).bind fun y1 =>
 ((disk_Find x.D y1).bind fun y2 =>
 if y2.2 then
 (disk_Delete x.D y1).bind fun y3 =>
 if (!(decide (y3.2 = 0))) then
 (kv_fails y3.2).bind fun y4 =>
 match y4 with
 | (.inl y5) =>
  some (.inr (.inl (y3.1.Files, y3.1.Room, y3.1.Fuse, y3.1.Off)))
 | (.inr (.inl y6)) =>
  some (.inr (.inr (.inl (y6, y3.1.Files, y3.1.Room, y3.1.Fuse, y3.1.Off))))
 | (.inr (.inr y7)) =>
 some (.inr (.inr (.inr (y7, y3.1.Files, y3.1.Room, y3.1.Fuse, y3.1.Off))))
 else
 some (.inl (y3.1.Files, y3.1.Room, y3.1.Fuse, y3.1.Off))
 else
 some (.inl (x.D.Files, x.D.Room, x.D.Fuse, x.D.Off))).bind fun (y8 : ((List File) × Int × Int × Bool) ⊕ ((List File) × Int × Int × Bool) ⊕ (Int × (List File) × Int × Int × Bool) ⊕ (Int × (List File) × Int × Int × Bool)) =>
 match y8 with
 | (.inl v1) =>
  (wal_Drop ({ Files := v1.1, Room := v1.2.1, Fuse := v1.2.2.1, Off := v1.2.2.2 } : Disk) from_ x.From).bind fun y9 =>
  (kv_fails y9.2).bind fun y10 =>
  match y10 with
  | (.inl y11) =>
   some (.inl ({ D := y9.1, From := x.From, Seg := x.Seg, Run := x.Run, S := x.S, Down := x.Down } : Store))
  | (.inr (.inl y12)) =>
   some (.inr (.inl (({ D := y9.1, From := x.From, Seg := x.Seg, Run := x.Run, S := x.S, Down := x.Down } : Store), y12)))
  | (.inr (.inr y13)) =>
  some (.inr (.inr (({ D := y9.1, From := x.From, Seg := x.Seg, Run := x.Run, S := x.S, Down := x.Down } : Store), y13)))
 | (.inr (.inl v2)) =>
  some (.inl ({ D := ({ Files := v2.1, Room := v2.2.1, Fuse := v2.2.2.1, Off := v2.2.2.2 } : Disk), From := x.From, Seg := x.Seg, Run := x.Run, S := x.S, Down := x.Down } : Store))
 | (.inr (.inr (.inl v3))) =>
  some (.inr (.inl (({ D := ({ Files := v3.2.1, Room := v3.2.2.1, Fuse := v3.2.2.2.1, Off := v3.2.2.2.2 } : Disk), From := x.From, Seg := x.Seg, Run := x.Run, S := x.S, Down := x.Down } : Store), v3.1)))
 | (.inr (.inr (.inr v4))) =>
 some (.inr (.inr (({ D := ({ Files := v4.2.1, Room := v4.2.2.1, Fuse := v4.2.2.2.1, Off := v4.2.2.2.2 } : Disk), From := x.From, Seg := x.Seg, Run := x.Run, S := x.S, Down := x.Down } : Store), v4.1)))
theorem kv_old_walk {x from_ r} (h : kv_old x from_ = some r) : PureP Tryz.prog 71 [.agg (encStore x), vI from_] (fun a => match r with | (.inl r) => a = .tup [.agg (encStore r), .v .nilIface] | (.inr (.inl r)) => a = .tup [.agg (encStore r.1), .ifc 180 (.agg [vI r.2, .ifc 178 (.agg [])])] | (.inr (.inr r)) => a = .tup [.agg (encStore r.1), .ifc 180 (.agg [vI r.2, .v .nilIface])]) := by
 unfold kv_old at h
 refine pW0 Tryz.func71 rfl fun g=>go ?_
 refine cP h kv_RunName_walk fun y1 h=>gN 0 ?_
 refine kS h (Sum.elim (aO .normal (fun v1=>⟨53, 0, ofRegs [(1, vI from_), (2, .ptr 0 0), (4, .ptr 1 0)], [.var 38 [sL encFile v1.1, vI v1.2.1, vI v1.2.2.1, vB v1.2.2.2, vI x.From, vI x.Seg, vI x.Run, sL encPair x.S.Data, sL encPair x.S.Toks, vB x.Down], .var 38 [vN, vI 0, vI 0, vB false, vI 0, vI 0, vI 0, vN, vN, vB false]]⟩)) (Sum.elim (aO .ret (fun v2=>⟨53, 0, ofRegs [(4, .ptr 1 0), (5, .v .nilIface)], [.gone, .var 38 [sL encFile v2.1, vI v2.2.1, vI v2.2.2.1, vB v2.2.2.2, vI x.From, vI x.Seg, vI x.Run, sL encPair x.S.Data, sL encPair x.S.Toks, vB x.Down]]⟩)) (Sum.elim (aO .ret (fun v3=>⟨53, 0, ofRegs [(4, .ptr 1 0), (5, .ifc 180 (.agg [vI v3.1, .ifc 178 (.agg [])]))], [.gone, .var 38 [sL encFile v3.2.1, vI v3.2.2.1, vI v3.2.2.2.1, vB v3.2.2.2.2, vI x.From, vI x.Seg, vI x.Run, sL encPair x.S.Data, sL encPair x.S.Toks, vB x.Down]]⟩)) (aO .ret (fun v4=>⟨53, 0, ofRegs [(4, .ptr 1 0), (5, .ifc 180 (.agg [vI v4.1, .v .nilIface]))], [.gone, .var 38 [sL encFile v4.2.1, vI v4.2.2.1, vI v4.2.2.2.1, vB v4.2.2.2.2, vI x.From, vI x.Seg, vI x.Run, sL encPair x.S.Data, sL encPair x.S.Toks, vB x.Down]]⟩))))) (fun y2 h=>go ?_) <|bE (bO fun v1 _ h w=>wk w (go ?_)) (bE (bO fun v2 _ h w=>eFw) (bE (bO fun v3 _ h w=>eFw) <|bO fun v4 _ h w=>eFw))
 refine cP h disk_Find_walk fun y3 h=>go ?_
 refine cC h rfl (fun c1 h=>go ?_) fun c1 h=>cE
 refine cP h disk_Delete_walk fun y4 h=>go ?_
 refine cC h rfl (fun c2 h=>go ?_) fun c2 h=>cE
 refine Draw.one 3 (.take 0 (.take 1 (.alt 2 (.fin) (.nil)))) [] (by kernel_rfl) ⟨go ?_, ⟨⟩⟩
 obtain ⟨y5,q1,h⟩ := bind_some h
 refine PureP.mono (kv_fails_walk q1) ?_
 rcases y5 with y6 | y7 | y8
 dsimp only at h
 rintro _ rfl
 refine go ?_
 cases h
 exact ⟨rfl, (wF (.g .rest) (.all rfl))⟩
 dsimp only at h
 rintro _ rfl
 refine go ?_
 cases h
 exact ⟨rfl, (wF (.g .rest) (.all rfl))⟩
 dsimp only at h
 rintro _ rfl
 refine go ?_
 cases h
 exact ⟨rfl, (wF (.g .rest) (.all rfl))⟩
 refine cP h wal_Drop_walk fun y9 h=>go ?_
 refine Draw.one 3 (.take 0 (.take 1 (.alt 2 (.fin) (.nil)))) [] (by kernel_rfl) ⟨go ?_, ⟨⟩⟩
 obtain ⟨y10,q2,h⟩ := bind_some h
 refine PureP.mono (kv_fails_walk q2) ?_
 rcases y10 with y11 | y12 | y13
 dsimp only at h
 rintro _ rfl
 exact eF
 dsimp only at h
 rintro _ rfl
 exact eF
 dsimp only at h
 rintro _ rfl
 exact eF
def kv_told_3 (x : Store) : Option (Store × Int) :=
 some (x, 0)
theorem kv_told_3_walk {x r} (h : kv_told_3 x = some r) : pP 45 [.agg (encStore x), .v .nilIface] (.tup [.agg (encStore r.1), vI r.2]) := by
 unfold kv_told_3 at h
 refine pW (G := ⟨tys, [104], [], []⟩) tyOk mixed Tryz.func45 rfl fun g=>go ?_
 refine mC (callP_asnil (callable_of Tryz.func104 rfl (by kernel_rfl)) as_nil [.var 180 [vI 0, .v .nilIface]] (.ifc 182 (.ptr 0 0))) [2] (go ?_)
 exact Tri.condT rfl eF
def kv_Check_l2 (x : Store) (y1 : Str × Int) (y2 y3 : Str) (a1 : Int) (a2 : (List File)) (a3 a4 : Int) (a5 : Bool) : Option ((Int × (List File) × Int × Int × Bool) ⊕ ((Int × (List File) × Int × Int × Bool × Int × Int × Int × (List Pair) × (List Pair) × Bool) ⊕ ((List File) × Int × Int × Bool))) :=
 if (decide (a1 < ([(y2, y1.1), ([109], y3)].length : Int))) then
 (ix [(y2, y1.1), ([109], y3)] a1).bind fun x1 =>
 (run_Lay ({ Files := a2, Room := a3, Fuse := a4, Off := a5 } : Disk) x1.1 x1.2).bind fun y4 =>
 (kv_fails y4.2).bind fun y5 =>
 match y5 with
 | (.inl y6) =>
  some (.inl ((IntKind.i64.wrap (a1 + 1)), y4.1.Files, y4.1.Room, y4.1.Fuse, y4.1.Off))
 | (.inr (.inl y7)) =>
  (kv_told ({ D := y4.1, From := x.From, Seg := x.Seg, Run := x.Run, S := x.S, Down := x.Down } : Store) y7).bind fun y8 =>
  some (.inr (.inl (y8.2, y8.1.D.Files, y8.1.D.Room, y8.1.D.Fuse, y8.1.D.Off, y8.1.From, y8.1.Seg, y8.1.Run, y8.1.S.Data, y8.1.S.Toks, y8.1.Down)))
 | (.inr (.inr y9)) =>
 (kv_told_2 ({ D := y4.1, From := x.From, Seg := x.Seg, Run := x.Run, S := x.S, Down := x.Down } : Store) y9).bind fun y10 =>
 some (.inr (.inl (y10.2, y10.1.D.Files, y10.1.D.Room, y10.1.D.Fuse, y10.1.D.Off, y10.1.From, y10.1.Seg, y10.1.Run, y10.1.S.Data, y10.1.S.Toks, y10.1.Down)))
 else
 some (.inr (.inr (a2, a3, a4, a5)))
def kv_Check (x : Store) : Option (Store × Int) :=
 if x.Down then some (x, 6) else
 if ((decide (x.Seg ≥ 1000000)) || (decide (x.Run ≥ 1000000))) then some (x, 5) else
 (batch_Pairs x.S).bind fun y1 =>
 (run_Bytes y1).bind fun y2 =>
 if (!(decide (y2.2 = 0))) then some (x, y2.2) else
 (kv_RunName (IntKind.i64.wrap (x.Run + 1))).bind fun y3 =>
 (kv_Manifest (IntKind.i64.wrap (x.Seg + 1)) (IntKind.i64.wrap (x.Run + 1))).bind fun y4 =>
 (loop (fun (s1 : Int × (List File) × Int × Int × Bool) => kv_Check_l2 x y2 y3 y4 s1.1 s1.2.1 s1.2.2.1 s1.2.2.2.1 s1.2.2.2.2) ((0 : Int), x.D.Files, x.D.Room, x.D.Fuse, x.D.Off)).bind fun (y5 : (Int × (List File) × Int × Int × Bool × Int × Int × Int × (List Pair) × (List Pair) × Bool) ⊕ ((List File) × Int × Int × Bool)) =>
 match y5 with
 | (.inl v1) =>
  some (({ D := ({ Files := v1.2.1, Room := v1.2.2.1, Fuse := v1.2.2.2.1, Off := v1.2.2.2.2.1 } : Disk), From := v1.2.2.2.2.2.1, Seg := v1.2.2.2.2.2.2.1, Run := v1.2.2.2.2.2.2.2.1, S := ({ Data := v1.2.2.2.2.2.2.2.2.1, Toks := v1.2.2.2.2.2.2.2.2.2.1 } : State), Down := v1.2.2.2.2.2.2.2.2.2.2 } : Store), v1.1)
 | (.inr v2) =>
 (kv_old ({ D := ({ Files := v2.1, Room := v2.2.1, Fuse := v2.2.2.1, Off := v2.2.2.2 } : Disk), From := (IntKind.i64.wrap (x.Seg + 1)), Seg := (IntKind.i64.wrap (x.Seg + 1)), Run := (IntKind.i64.wrap (x.Run + 1)), S := x.S, Down := x.Down } : Store) x.From).bind fun y6 =>
 match y6 with
 | (.inl y7) =>
  (kv_told_3 y7).bind fun y8 =>
  some (y8.1, y8.2)
 | (.inr (.inl y9)) =>
  (kv_told y9.1 y9.2).bind fun y10 =>
  some (y10.1, y10.2)
 | (.inr (.inr y11)) =>
 (kv_told_2 y11.1 y11.2).bind fun y12 =>
 some (y12.1, y12.2)
theorem kv_Check_walk {x r} (h : kv_Check x = some r) : pP 26 [.agg (encStore x)] (.tup [.agg (encStore r.1), vI r.2]) := by
 unfold kv_Check at h
 refine pW0 Tryz.func26 rfl fun g=>go ?_
 refine cC h rfl (fun c1 h=>eF) fun c1 h=>(k0 ⟨100, 0, ofRegs [(1, .ptr 0 0), (2, .ptr 1 0), (16, vB ((decide (x.Seg ≥ 1000000)) || (decide (x.Run ≥ 1000000))))], [.var 38 (encStore x), .var 38 [vN, vI 0, vI 0, vB false, vI 0, vI 0, vI 0, vN, vN, vB false]]⟩ (go ?_) ((cC h rfl (fun c2 h=>eF) fun c2 h=>go ?_)))
 exact cK (decide (x.Seg ≥ 1000000)) (fun i1=>cI) fun i1=>cI
 refine cP h batch_Pairs_walk fun y1 h=>go ?_
 refine cP h run_Bytes_walk fun y2 h=>go ?_
 refine cC h rfl (fun c3 h=>eF) fun c3 h=>go ?_
 refine Draw.one 13 (.take 0 (.take 2 (.take 4 (.take 5 (.take 6 (.take 7 (.take 12 (.alt 1 (.take 3 (.alt 8 (.take 9 (.alt 10 (.take 11 (.fin)) (.nil))) (.nil))) (.nil))))))))) [] (by kernel_rfl) ⟨go ?_, ⟨⟩⟩
 refine cP h kv_RunName_walk fun y3 h=>⟨go ?_, ⟨⟩⟩
 refine cP h kv_Manifest_walk fun y4 h=>⟨⟨List.map encA141 [(y3, y2.1), ([109], y4)], rfl, rfl, ([(y3, y2.1), ([109], y4)].length : Int), by simp, go ?_⟩, ⟨⟩⟩
 refine lQ h (fun s1=>⟨100, 0, ofRegs [(1, .ptr 0 0), (2, .ptr 1 0), (6, vI (IntKind.i64.wrap (x.Run + 1))), (50, .row 2 ((List.map encA141 [(y3, y2.1), ([109], y4)]).length)), (51, vI ([(y3, y2.1), ([109], y4)].length : Int)), (52, vI s1.1)], [.var 38 [sL encFile s1.2.1, vI s1.2.2.1, vI s1.2.2.2.1, vB s1.2.2.2.2, vI x.From, vI x.Seg, vI x.Run, sL encPair x.S.Data, sL encPair x.S.Toks, vB x.Down], .var 38 [vN, vI 0, vI 0, vB false, vI 0, vI 0, vI 0, vN, vN, vB false], .row 141 2 (List.map encA141 [(y3, y2.1), ([109], y4)])]⟩) (Sum.elim (aO .ret (fun v1=>⟨100, 0, ofRegs [(2, .ptr 1 0), (3, vI v1.1)], [.gone, .var 38 [sL encFile v1.2.1, vI v1.2.2.1, vI v1.2.2.2.1, vB v1.2.2.2.2.1, vI v1.2.2.2.2.2.1, vI v1.2.2.2.2.2.2.1, vI v1.2.2.2.2.2.2.2.1, sL encPair v1.2.2.2.2.2.2.2.2.1, sL encPair v1.2.2.2.2.2.2.2.2.2.1, vB v1.2.2.2.2.2.2.2.2.2.2]]⟩)) (aO (.exit 1) (fun v2=>⟨100, 0, ofRegs [(1, .ptr 0 0), (2, .ptr 1 0), (6, vI (IntKind.i64.wrap (x.Run + 1)))], [.var 38 [sL encFile v2.1, vI v2.2.1, vI v2.2.2.1, vB v2.2.2.2, vI x.From, vI x.Seg, vI x.Run, sL encPair x.S.Data, sL encPair x.S.Toks, vB x.Down], .var 38 [vN, vI 0, vI 0, vB false, vI 0, vI 0, vI 0, vN, vN, vB false]]⟩))) wI ?_ <|bE (bO fun v1 _ h w=>eFw) <|bO fun v2 _ h w=>wk w (go ?_)
 rintro y5 ⟨a1,a2,a3,a4,a5⟩ v3 h r
 replace h : kv_Check_l2 x y2 y3 y4 a1 a2 a3 a4 a5 = some v3 := h
 unfold kv_Check_l2 at h
 dsimp only
 refine go ?_
 refine cC h rfl (fun c4 h=>go ?_) fun c4 h=>xE
 obtain ⟨x1,q1,h⟩ := bind_some h
 refine ⟨⟨rfl, (ix_lt q1).1, by have := ix_lt q1; simp only [List.length_map, List.length_set, List.length_cons, List.length_nil] at *; omega⟩, ?_⟩
 refine ⟨rfl, _, map_get encA141 (ix_some q1).2, go ?_⟩
 refine ⟨by decide, by decide, go ?_⟩
 refine cP h run_Lay_walk fun y6 h=>go ?_
 obtain ⟨y7,q2,h⟩ := bind_some h
 refine PureP.mono (kv_fails_walk q2) ?_
 rcases y7 with y8 | y9 | y10
 dsimp only at h
 rintro _ rfl
 refine go ?_
 exact Tri.condF rfl cN
 dsimp only at h
 rintro _ rfl
 refine go ?_
 refine Tri.condT rfl (go ?_)
 refine cP h kv_told_walk fun y11 h=>go ?_
 cases h
 obtain rfl := r _ rfl
 exact ⟨rfl, (wF (.g .rest) (.all rfl))⟩
 dsimp only at h
 rintro _ rfl
 refine go ?_
 refine Tri.condT rfl (go ?_)
 refine cP h kv_told_2_walk fun y12 h=>go ?_
 cases h
 obtain rfl := r _ rfl
 exact ⟨rfl, (wF (.g .rest) (.all rfl))⟩
 obtain ⟨y13,q3,h⟩ := bind_some h
 refine PureP.mono (kv_old_walk q3) ?_
 rcases y13 with y14 | y16 | y18
 dsimp only at h
 rintro _ rfl
 refine go ?_
 exact cP h kv_told_3_walk fun y19 h=>eF
 dsimp only at h
 rintro _ rfl
 refine go ?_
 exact cP h kv_told_walk fun y20 h=>eF
 dsimp only at h
 rintro _ rfl
 refine go ?_
 exact cP h kv_told_2_walk fun y21 h=>eF
def ref01_Num_l2 (a1 : Int) (a2 : Str) : Option ((Int × Str) ⊕ (Str)) :=
 if (decide (a1 > 0)) then
 need ((List.map u8 [(IntKind.u8.wrap (48 + (IntKind.u8.wrap (Int.tmod a1 10))))]).length + a2.length ≤ 9223372036854775807) <|
 some (.inl ((IntKind.u64.wrap (Int.tdiv a1 10)), ((List.map u8 [(IntKind.u8.wrap (48 + (IntKind.u8.wrap (Int.tmod a1 10))))]) ++ a2)))
 else
 some (.inr a2)
def ref01_Num (v : Int) : Option (Str) :=
 need ((List.map u8 [(IntKind.u8.wrap (48 + (IntKind.u8.wrap (Int.tmod v 10))))]).length + ([59] : Str).length ≤ 9223372036854775807) <|
 (loop (fun (s1 : Int × Str) => ref01_Num_l2 s1.1 s1.2) ((IntKind.u64.wrap (Int.tdiv v 10)), ((List.map u8 [(IntKind.u8.wrap (48 + (IntKind.u8.wrap (Int.tmod v 10))))]) ++ [59]))).bind fun (y1 : Str) =>
 some y1
theorem ref01_Num_walk {v r} (h : ref01_Num v = some r) : pP 64 [vU v] (vS r) := by
 unfold ref01_Num at h
 refine pW0 Tryz.func64 rfl fun g=>go ?_
 refine ⟨by decide, (IntKind.u8.wrap (Int.tmod v 10)), rfl, List.map (encI .u8) [(IntKind.u8.wrap (48 + (IntKind.u8.wrap (Int.tmod v 10))))], rfl, rfl, [(IntKind.u8.wrap (48 + (IntKind.u8.wrap (Int.tmod v 10))))], rfl, _, ofInts_eq _, go ?_⟩
 refine nD h fun p1 h=>⟨p1, _, bs_append _ _, go ?_⟩
 refine ⟨by decide, go ?_⟩
 refine lQ h (fun s1=>⟨26, 0, ofRegs [(0, vU s1.1), (3, vS s1.2)], []⟩) (aO (.exit 0) (fun y1=>⟨26, 0, ofRegs [(3, vS y1)], []⟩)) wA ?_ <|bO fun y1 _ h w=>wk w eF
 rintro y1 ⟨a1,a2⟩ v1 h r
 replace h : ref01_Num_l2 a1 a2 = some v1 := h
 unfold ref01_Num_l2 at h
 dsimp only
 refine go ?_
 refine cC h rfl (fun c1 h=>go ?_) fun c1 h=>xE
 refine ⟨by decide, (IntKind.u8.wrap (Int.tmod a1 10)), rfl, List.map (encI .u8) [(IntKind.u8.wrap (48 + (IntKind.u8.wrap (Int.tmod a1 10))))], rfl, rfl, [(IntKind.u8.wrap (48 + (IntKind.u8.wrap (Int.tmod a1 10))))], rfl, _, ofInts_eq _, go ?_⟩
 refine nD h fun p2 h=>⟨p2, _, bs_append _ _, go ?_⟩
 refine ⟨by decide, cN⟩
def ref08_RunName (n : Int) : Option (Str) :=
 if ((decide (n < 1)) || (decide (n > 1000000))) then some ([] : Str) else
 (ref01_Num (IntKind.u64.wrap n)).bind fun y1 =>
 need ((0 : Int) ≤ (0 : Int) ∧ 0 ≤ (IntKind.i64.wrap ((y1.length : Int) - 1)) ∧ (IntKind.i64.wrap ((y1.length : Int) - 1)) ≤ (y1.length : Int)) <|
 need (([114] : Str).length + (cut y1 0 (IntKind.i64.wrap ((y1.length : Int) - 1))).length ≤ 9223372036854775807) <|
 some ([114] ++ (cut y1 0 (IntKind.i64.wrap ((y1.length : Int) - 1))))
theorem ref08_RunName_walk {n r} (h : ref08_RunName n = some r) : pP 23 [vI n] (vS r) := by
 unfold ref08_RunName at h
 refine pW0 Tryz.func23 rfl fun g=>gN 3 ?_
 refine k0 ⟨19, 0, ofRegs [(0, vI n), (9, vB ((decide (n < 1)) || (decide (n > 1000000))))], []⟩ (go ?_) ((cC h rfl (fun c1 h=>eF) fun c1 h=>go ?_))
 exact cK (decide (n < 1)) (fun i1=>cI) fun i1=>cI
 refine ⟨(IntKind.u64.wrap n), rfl, go ?_⟩
 refine cP h ref01_Num_walk fun y1 h=>go ?_
 refine ⟨(y1.length : Int), rfl, go ?_⟩
 refine nD h fun p1 h=>⟨p1, bs (cut y1 0 (IntKind.i64.wrap ((y1.length : Int) - 1))), bs_cut _ _ _, go ?_⟩
 refine nD h fun p2 h=>⟨p2, _, bs_append _ _, eF⟩
def ref03_at_l2 (d : Disk) (name : Str) (a1 : Int) : Option ((Int) ⊕ ((Int) ⊕ (Unit))) :=
 if (decide (a1 < (d.Files.length : Int))) then
 (ix d.Files a1).bind fun x1 =>
 if (decide (x1.Name = name)) then some (.inr (.inl a1)) else
 some (.inl (IntKind.i64.wrap (a1 + 1)))
 else
 some (.inr (.inr ()))
def ref03_at (d : Disk) (name : Str) : Option (Int) :=
 (loop (fun (s1 : Int) => ref03_at_l2 d name s1) (0 : Int)).bind fun (y1 : (Int) ⊕ (Unit)) =>
 match y1 with
 | (.inl v1) =>
  some v1
 | (.inr v2) =>
 some ((-1) : Int)
theorem ref03_at_walk {d name r} (h : ref03_at d name = some r) : pP 72 [.agg (encDisk d), vS name] (vI r) := by
 unfold ref03_at at h
 refine pW0 Tryz.func72 rfl fun g=>go ?_
 refine lQ h (fun s1=>⟨22, 0, ofRegs [(1, vS name), (2, .ptr 0 0), (5, vI s1)], [.var 31 (encDisk d)]⟩) (Sum.elim (aO .ret (fun v1=>⟨22, 0, ofRegs [(4, vI v1)], []⟩)) (aO (.exit 0) (fun _=>⟨22, 0, ofRegs [], []⟩))) wA ?_ <|bE (bO fun v1 _ h w=>eFw) <|bO fun v2 _ h w=>wk w eF
 rintro y1 a1 v3 h r
 replace h : ref03_at_l2 d name a1 = some v3 := h
 unfold ref03_at_l2 at h
 refine go ?_
 refine ⟨_, (len_map _ _).symm, go ?_⟩
 refine cC h rfl (fun c1 h=>go ?_) fun c1 h=>xE
 refine bD h fun x1 q1 h=>⟨(ix_some q1).1, _, map_get encFile (ix_some q1).2, rfl, _, bs_eq _ _, go ?_⟩
 exact cC h rfl (fun c2 h=>xE) fun c2 h=>cN
def ref03_Find (d : Disk) (name : Str) : Option (File × Bool) :=
 (ref03_at d name).bind fun y1 =>
 if (decide (y1 < 0)) then some (({ Name := [], Safe := [], Wait := [] } : File), false) else
 (ix d.Files y1).bind fun x1 =>
 some (x1, true)
theorem ref03_Find_walk {d name r} (h : ref03_Find d name = some r) : pP 27 [.agg (encDisk d), vS name] (.tup [.agg (encFile r.1), vB r.2]) := by
 unfold ref03_Find at h
 refine pW0 Tryz.func27 rfl fun g=>go ?_
 refine cP h ref03_at_walk fun y1 h=>go ?_
 refine cC h rfl (fun c1 h=>eF) fun c1 h=>go ?_
 refine bD h fun x1 q1 h=>⟨(ix_some q1).1, _, map_get encFile (ix_some q1).2, rfl, eF⟩
def law08_KvRuns_l2 (l : (List Batch)) (y1 : Bool) (a1 : Int) (a2 : (List File)) (a3 a4 : Int) (a5 : Bool) (a6 a7 a8 : Int) (a9 a10 : (List Pair)) (a11 : Bool) : Option ((Int × (List File) × Int × Int × Bool × Int × Int × Int × (List Pair) × (List Pair) × Bool) ⊕ ((Bool) ⊕ (Unit))) :=
 if ((decide (a1 < (l.length : Int))) && (decide (a1 < 60))) then
 (ix l a1).bind fun x1 =>
 (kv_Commit ({ D := ({ Files := a2, Room := a3, Fuse := a4, Off := a5 } : Disk), From := a6, Seg := a7, Run := a8, S := ({ Data := a9, Toks := a10 } : State), Down := a11 } : Store) x1).bind fun y2 =>
 (kv_Check y2.1).bind fun y3 =>
 if (!(decide (y3.2 = 0))) then
 if y1 then
 (ref07_Same y2.1.S y3.1.S).bind fun y4 =>
 some (.inr (.inl y4))
 else
 some (.inr (.inl false))
 else
 (ref08_RunName y2.1.Seg).bind fun y5 =>
 need ((0 : Int) ≤ 1 ∧ 1 ≤ (y5.length : Int) ∧ (y5.length : Int) ≤ (y5.length : Int)) <|
 need (([119] : Str).length + (cut y5 1 (y5.length : Int)).length ≤ 9223372036854775807) <|
 (ref03_Find y3.1.D ([119] ++ (cut y5 1 (y5.length : Int)))).bind fun y6 =>
 (kv_RunName y2.1.Run).bind fun y7 =>
 (ref03_Find y3.1.D y7).bind fun y8 =>
 if ((!(decide (y3.1.Run = (IntKind.i64.wrap (y2.1.Run + 1))))) || ((!(decide (y3.1.From = (IntKind.i64.wrap (y2.1.Seg + 1))))) || ((!(decide (y3.1.Seg = y3.1.From))) || (y6.2 || y8.2)))) then some (.inr (.inl false)) else
 some (.inl ((IntKind.i64.wrap (a1 + 1)), y3.1.D.Files, y3.1.D.Room, y3.1.D.Fuse, y3.1.D.Off, y3.1.From, y3.1.Seg, y3.1.Run, y3.1.S.Data, y3.1.S.Toks, y3.1.Down))
 else
 some (.inr (.inr ()))
def law08_KvRuns (room : Int) (l : (List Batch)) : Option (Bool) :=
 law08_shown.bind fun y1 =>
 (ref03_New room).bind fun y2 =>
 (kv_Open y2.1).bind fun y4 =>
 if ((!y1) || ((!(decide (y2.2 = 0))) || (!(decide (y4.2 = 0))))) then
 if y1 then some (!(decide (y2.2 = 0))) else
 some false
 else
 (loop (fun (s1 : Int × (List File) × Int × Int × Bool × Int × Int × Int × (List Pair) × (List Pair) × Bool) => law08_KvRuns_l2 l y1 s1.1 s1.2.1 s1.2.2.1 s1.2.2.2.1 s1.2.2.2.2.1 s1.2.2.2.2.2.1 s1.2.2.2.2.2.2.1 s1.2.2.2.2.2.2.2.1 s1.2.2.2.2.2.2.2.2.1 s1.2.2.2.2.2.2.2.2.2.1 s1.2.2.2.2.2.2.2.2.2.2) ((0 : Int), y4.1.D.Files, y4.1.D.Room, y4.1.D.Fuse, y4.1.D.Off, y4.1.From, y4.1.Seg, y4.1.Run, y4.1.S.Data, y4.1.S.Toks, y4.1.Down)).bind fun (y6 : (Bool) ⊕ (Unit)) =>
 match y6 with
 | (.inl v1) =>
  some v1
 | (.inr v2) =>
 some y1
theorem law08_KvRuns_walk {room l r} (h : law08_KvRuns room l = some r) : pP 6 [vI room, sL encBatch l] (vB r) := by
 unfold law08_KvRuns at h
 refine pW0 Tryz.func6 rfl fun g=>go ?_
 refine cP h law08_shown_walk fun y1 h=>go ?_
 refine cP h ref03_New_walk fun y2 h=>go ?_
 refine cP h kv_Open_walk fun y4 h=>gN 1 ?_
 refine k0 ⟨126, 0, ofRegs [(1, sL encBatch l), (5, vB y1), (7, vI y2.2), (8, .ptr 1 0), (37, vB ((!y1) || ((!(decide (y2.2 = 0))) || (!(decide (y4.2 = 0))))))], [.gone, .var 38 (encStore y4.1)]⟩ (go ?_) ((cC h rfl (fun c1 h=>go ?_) fun c1 h=>go ?_))
 refine cK (!y1) (fun i1=>go ?_) fun i1=>go ?_
 exact ⟨rfl, (wF (.g .rest) (.s (.s (.s (.s (.q (.all rfl)))))))⟩
 refine cK (!(decide (y2.2 = 0))) (fun i2=>go ?_) fun i2=>go ?_
 exact ⟨rfl, (wF (.g .rest) (.s (.s (.s (.s (.q (.all rfl)))))))⟩
 exact ⟨rfl, (wF (.g .rest) (.s (.s (.s (.s (.q (.all rfl)))))))⟩
 exact cM h (fun c2 h=>eF) fun c2 h=>eF
 refine lQ h (fun s1=>⟨126, 0, ofRegs [(1, sL encBatch l), (5, vB y1), (8, .ptr 1 0), (10, vI s1.1)], [.gone, .var 38 [sL encFile s1.2.1, vI s1.2.2.1, vI s1.2.2.2.1, vB s1.2.2.2.2.1, vI s1.2.2.2.2.2.1, vI s1.2.2.2.2.2.2.1, vI s1.2.2.2.2.2.2.2.1, sL encPair s1.2.2.2.2.2.2.2.2.1, sL encPair s1.2.2.2.2.2.2.2.2.2.1, vB s1.2.2.2.2.2.2.2.2.2.2]]⟩) (Sum.elim (aO .ret (fun v1=>⟨126, 0, ofRegs [(4, vB v1)], []⟩)) (aO (.exit 0) (fun _=>⟨126, 0, ofRegs [(5, vB y1)], []⟩))) wA ?_ <|bE (bO fun v1 _ h w=>eFw) <|bO fun v2 _ h w=>wk w eF
 rintro y6 ⟨a1,a2,a3,a4,a5,a6,a7,a8,a9,a10,a11⟩ v3 h r
 replace h : law08_KvRuns_l2 l y1 a1 a2 a3 a4 a5 a6 a7 a8 a9 a10 a11 = some v3 := h
 unfold law08_KvRuns_l2 at h
 dsimp only
 refine gN 1 ?_
 refine k0 ⟨126, 0, ofRegs [(1, sL encBatch l), (5, vB y1), (8, .ptr 1 0), (10, vI a1), (50, vB ((decide (a1 < (l.length : Int))) && (decide (a1 < 60))))], [.gone, .var 38 [sL encFile a2, vI a3, vI a4, vB a5, vI a6, vI a7, vI a8, sL encPair a9, sL encPair a10, vB a11]]⟩ (go ?_) ((cC h rfl (fun c3 h=>go ?_) fun c3 h=>xE))
 refine ⟨_, (len_map _ _).symm, go ?_⟩
 exact cK (decide (a1 < (l.length : Int))) (fun i1=>cI) fun i1=>cI
 refine Draw.one 10 (.take 1 (.take 2 (.take 3 (.take 4 (.alt 0 (.alt 5 (.take 6 (.take 7 (.take 8 (.alt 9 (.fin) (.nil))))) (.nil)) (.nil)))))) [1, 2, 3, 4, 5, 6, 7] (by kernel_rfl) (go ?_)
 refine bD h fun x1 q1 h=>⟨(ix_some q1).1, _, map_get encBatch (ix_some q1).2, rfl, ⟨go ?_, ⟨⟩⟩, ⟨⟩⟩
 refine cP h kv_Commit_walk fun y7 h=>⟨go ?_, ⟨⟩⟩
 refine cP h kv_Check_walk fun y8 h=>go ?_
 refine cC h rfl (fun c4 h=>go ?_) fun c4 h=>go ?_
 refine cM h (fun c5 h=>go ?_) fun c5 h=>xE
 exact cP h ref07_Same_walk fun y9 h=>xE
 obtain ⟨y10,q2,h⟩ := bind_some h
 obtain ⟨p1,h⟩ := need_some h
 obtain ⟨p2,h⟩ := need_some h
 obtain ⟨y11,q3,h⟩ := bind_some h
 refine Draw.many 13 (.take 0 (.take 1 (.take 2 (.take 3 (.alt 4 (.take 5 (.take 6 (.alt 7 (.take 8 (.take 9 (.take 10 (.alt 11 (.alt 12 (.fin) (.nil)) (.nil))))) (.alt 11 (.alt 7 (.take 8 (.take 9 (.take 10 (.alt 12 (.fin) (.nil))))) (.nil)) (.nil))))) (.alt 11 (.alt 4 (.take 5 (.take 6 (.alt 7 (.take 8 (.take 9 (.take 10 (.alt 12 (.fin) (.nil))))) (.nil)))) (.nil)) (.nil))))))) [3, 4, 5, 6, 7, 8] (⟨126, 0, ofRegs [(1, sL encBatch l), (5, vB y1), (8, .ptr 1 0), (10, vI a1), (11, .ptr 2 0), (87, vB y11.2)], [.gone, .var 38 (encStore y7.1), .var 38 (encStore y8.1)]⟩) (by kernel_rfl) ⟨go ?_, ⟨⟨go ?_, ⟨⟩⟩, ⟨⟩⟩⟩ (go ?_)
 refine mP (ref08_RunName_walk q2) ⟨p1, bs (cut y10 1 (y10.length : Int)), bs_cut _ _ _, p2, _, bs_append _ _, go ?_, ⟨⟨go ?_, ⟨⟩⟩, ⟨⟩⟩⟩
 exact mP (ref03_Find_walk q3) ⟨⟨cA, ⟨⟩⟩, ⟨⟩⟩
 exact mP (ref03_Find_walk q3) ⟨cA, ⟨⟩⟩
 refine mP (ref08_RunName_walk q2) ⟨p1, bs (cut y10 1 (y10.length : Int)), bs_cut _ _ _, p2, _, bs_append _ _, go ?_, ⟨⟩⟩
 exact mP (ref03_Find_walk q3) ⟨cA, ⟨⟩⟩
 obtain ⟨y12,q4,h⟩ := bind_some h
 obtain ⟨y13,q5,h⟩ := bind_some h
 refine Draw.many 11 (.take 0 (.take 1 (.take 2 (.take 3 (.alt 4 (.alt 5 (.take 6 (.take 7 (.take 8 (.alt 9 (.alt 10 (.fin) (.nil)) (.nil))))) (.alt 9 (.alt 5 (.take 6 (.take 7 (.take 8 (.alt 10 (.fin) (.nil))))) (.nil)) (.nil))) (.alt 9 (.alt 4 (.alt 5 (.take 6 (.take 7 (.take 8 (.alt 10 (.fin) (.nil))))) (.nil)) (.nil)) (.nil))))))) [3, 4, 5, 6, 7, 8] (⟨126, 0, ofRegs [(1, sL encBatch l), (5, vB y1), (8, .ptr 1 0), (10, vI a1), (11, .ptr 2 0), (14, vB y11.2), (96, vB y13.2)], [.gone, .var 38 (encStore y7.1), .var 38 (encStore y8.1)]⟩) (by kernel_rfl) ⟨go ?_, ⟨⟨go ?_, ⟨⟩⟩, ⟨⟩⟩⟩ (gN 1 ?_)
 refine mP (kv_RunName_walk q4) ⟨go ?_, ⟨⟨go ?_, ⟨⟩⟩, ⟨⟩⟩⟩
 exact mP (ref03_Find_walk q5) ⟨⟨cA, ⟨⟩⟩, ⟨⟩⟩
 exact mP (ref03_Find_walk q5) ⟨cA, ⟨⟩⟩
 refine mP (kv_RunName_walk q4) ⟨go ?_, ⟨⟩⟩
 exact mP (ref03_Find_walk q5) ⟨cA, ⟨⟩⟩
 refine k0 ⟨126, 0, ofRegs [(1, sL encBatch l), (5, vB y1), (8, .ptr 1 0), (10, vI a1), (11, .ptr 2 0), (123, vB ((!(decide (y8.1.Run = (IntKind.i64.wrap (y7.1.Run + 1))))) || ((!(decide (y8.1.From = (IntKind.i64.wrap (y7.1.Seg + 1))))) || ((!(decide (y8.1.Seg = y8.1.From))) || (y11.2 || y13.2)))))], [.gone, .var 38 (encStore y7.1), .var 38 (encStore y8.1)]⟩ (go ?_) ?_
 refine cK (!(decide (y8.1.Run = (IntKind.i64.wrap (y7.1.Run + 1))))) (fun i1=>cI) fun i1=>go ?_
 refine cK (!(decide (y8.1.From = (IntKind.i64.wrap (y7.1.Seg + 1))))) (fun i2=>cI) fun i2=>go ?_
 refine cK (!(decide (y8.1.Seg = y8.1.From))) (fun i3=>cI) fun i3=>go ?_
 exact cK (y11.2) (fun i4=>cI) fun i4=>cI
 exact cC h rfl (fun c6 h=>xE) fun c6 h=>cN
def disk_Arm (d : Disk) (fuse : Int) : Option (Disk) :=
 some ({ Files := d.Files, Room := d.Room, Fuse := (if fuse < (-1) then (-1) else fuse), Off := d.Off } : Disk)
theorem disk_Arm_walk {d fuse r} (h : disk_Arm d fuse = some r) : pP 73 [.agg (encDisk d), vI fuse] (.agg (encDisk r)) := by
 unfold disk_Arm at h
 exact pW0 Tryz.func73 rfl fun g=>eF
def kv_Arm (x : Store) (fuse : Int) : Option (Store) :=
 (disk_Arm x.D fuse).bind fun y1 =>
 some ({ D := y1, From := x.From, Seg := x.Seg, Run := x.Run, S := x.S, Down := x.Down } : Store)
theorem kv_Arm_walk {x fuse r} (h : kv_Arm x fuse = some r) : pP 28 [.agg (encStore x), vI fuse] (.agg (encStore r)) := by
 unfold kv_Arm at h
 refine pW0 Tryz.func28 rfl fun g=>go ?_
 exact cP h disk_Arm_walk fun y1 h=>eF
def ref05_Find_l2 (l : (List Pair)) (key : Str) (a1 : Int) : Option ((Int) ⊕ ((Str) ⊕ (Unit))) :=
 if (decide (a1 < (l.length : Int))) then
 (ix l a1).bind fun x1 =>
 if (decide (x1.Key = key)) then some (.inr (.inl x1.Val)) else
 some (.inl (IntKind.i64.wrap (a1 + 1)))
 else
 some (.inr (.inr ()))
def ref05_Find (l : (List Pair)) (key : Str) : Option (Str × Bool) :=
 (loop (fun (s1 : Int) => ref05_Find_l2 l key s1) (0 : Int)).bind fun (y1 : (Str) ⊕ (Unit)) =>
 match y1 with
 | (.inl v1) =>
  some (v1, true)
 | (.inr v2) =>
 some ([], false)
theorem ref05_Find_walk {l key r} (h : ref05_Find l key = some r) : pP 107 [sL encPair l, vS key] (.tup [vS r.1, vB r.2]) := by
 unfold ref05_Find at h
 refine pW0 Tryz.func107 rfl fun g=>go ?_
 refine lQ h (fun s1=>⟨25, 0, ofRegs [(0, sL encPair l), (1, vS key), (6, vI s1)], []⟩) (Sum.elim (aO .ret (fun v1=>⟨25, 0, ofRegs [(4, vS v1), (5, vB true)], []⟩)) (aO (.exit 0) (fun _=>⟨25, 0, ofRegs [], []⟩))) wA ?_ <|bE (bO fun v1 _ h w=>eFw) <|bO fun v2 _ h w=>wk w eF
 rintro y1 a1 v3 h r
 replace h : ref05_Find_l2 l key a1 = some v3 := h
 unfold ref05_Find_l2 at h
 refine go ?_
 refine ⟨_, (len_map _ _).symm, go ?_⟩
 refine cC h rfl (fun c1 h=>go ?_) fun c1 h=>xE
 refine bD h fun x1 q1 h=>⟨(ix_some q1).1, _, map_get encPair (ix_some q1).2, rfl, _, bs_eq _ _, go ?_⟩
 refine cC h rfl (fun c2 h=>go ?_) fun c2 h=>cN
 refine ⟨(ix_some q1).1, _, map_get encPair (ix_some q1).2, rfl, xE⟩
def ref07_Decided (s : State) (token : Str) : Option (Str × Bool) :=
 (ref05_Find s.Toks token).bind fun y1 =>
 some (y1.1, y1.2)
theorem ref07_Decided_walk {s token r} (h : ref07_Decided s token = some r) : pP 51 [.agg (encState s), vS token] (.tup [vS r.1, vB r.2]) := by
 unfold ref07_Decided at h
 refine pW0 Tryz.func51 rfl fun g=>go ?_
 exact cP h ref05_Find_walk fun y1 h=>eF
def ref05_Drop_l2 (l : (List Pair)) (key : Str) (a1 : Int) (a2 : (List Pair)) : Option ((Int × (List Pair)) ⊕ ((List Pair))) :=
 if (decide (a1 < (l.length : Int))) then
 ((ix l a1).bind fun x1 =>
 if (!decide (x1.Key = key)) then
 need ((a2.length + 1) * 32 ≤ 140737488355328) <|
 some (a2 ++ [x1])
 else
 some a2).bind fun (y1 : (List Pair)) =>
 some (.inl ((IntKind.i64.wrap (a1 + 1)), y1))
 else
 some (.inr a2)
def ref05_Drop (l : (List Pair)) (key : Str) : Option ((List Pair)) :=
 (loop (fun (s1 : Int × (List Pair)) => ref05_Drop_l2 l key s1.1 s1.2) ((0 : Int), ([] : (List Pair)))).bind fun (y1 : (List Pair)) =>
 some y1
theorem ref05_Drop_walk {l key r} (h : ref05_Drop l key = some r) : pP 108 [sL encPair l, vS key] (sL encPair r) := by
 unfold ref05_Drop at h
 refine pW0 Tryz.func108 rfl fun g=>go ?_
 refine lQ h (fun s1=>⟨28, 0, ofRegs [(0, sL encPair l), (1, vS key), (5, .row 0 ((List.map encPair s1.2).length)), (6, vI s1.1)], [.row 90 2 (List.map encPair s1.2)]⟩) (aO (.exit 0) (fun y1=>⟨28, 0, ofRegs [(5, .row 0 ((List.map encPair y1).length))], [.row 90 2 (List.map encPair y1)]⟩)) (Weak.trans (weak_nil 5 90 2 rfl) wI) ?_ <|bO fun y1 _ h w=>wk w eF
 rintro y1 ⟨a1,a2⟩ v1 h r
 replace h : ref05_Drop_l2 l key a1 a2 = some v1 := h
 unfold ref05_Drop_l2 at h
 dsimp only
 refine go ?_
 refine ⟨_, (len_map _ _).symm, go ?_⟩
 refine cC h rfl (fun c1 h=>gN 1 ?_) fun c1 h=>xE
 refine k1 h (fun y2=>⟨28, 0, ofRegs [(0, sL encPair l), (1, vS key), (5, .row 0 ((List.map encPair y2).length)), (6, vI a1)], [.row 90 2 (List.map encPair y2)]⟩) (fun y2 h=>go ?_) fun y2 h=>cN
 refine bD h fun x1 q1 h=>⟨(ix_some q1).1, _, map_get encPair (ix_some q1).2, rfl, _, bs_ne _ _, go ?_⟩
 refine cC h rfl (fun c2 h=>go ?_) fun c2 h=>cE
 refine ⟨(ix_some q1).1, _, map_get encPair (ix_some q1).2, rfl, List.map encPair [x1], rfl, rfl, rfl, go ?_⟩
 refine nD h fun p1 h=>⟨by simp only [List.length_map]; exact p1, List.map encPair (a2 ++ [x1]), map_app encPair _ _ rfl rfl, cE⟩
def ref05_Put_l2 (l : (List Pair)) (key val : Str) (y1 : Str × Bool) (a1 : Bool) (a2 : Int) (a3 : (List Pair)) : Option ((Bool × Int × (List Pair)) ⊕ (Bool × (List Pair))) :=
 if (decide (a2 < (l.length : Int))) then
 (((if (!a1) then
 if y1.2 then
 (ix l a2).bind fun x1 =>
 if (decide (x1.Key = key)) then some true else
 if (!y1.2) then
 (ref01_Less key x1.Key).bind fun y2 =>
 some y2
 else
 some false
 else
 if (!y1.2) then
 (ix l a2).bind fun x2 =>
 (ref01_Less key x2.Key).bind fun y3 =>
 some y3
 else
 some false
 else
 some false).bind fun (y4 : Bool) =>
 if y4 then
 need ((a3.length + 1) * 32 ≤ 140737488355328) <|
 if y1.2 then some (.inr ()) else
 some (.inl (true, (a3 ++ [({ Key := key, Val := val } : Pair)])))
 else
 some (.inl (a1, a3))).bind fun (y5 : (Bool × (List Pair)) ⊕ (Unit)) =>
 match y5 with
 | (.inl v1) =>
  (ix l a2).bind fun x3 =>
  need ((v1.2.length + 1) * 32 ≤ 140737488355328) <|
  some (v1.1, (v1.2 ++ [x3]))
 | (.inr v2) =>
 some (true, (a3 ++ [({ Key := key, Val := val } : Pair)]))).bind fun (y6 : Bool × (List Pair)) =>
 some (.inl (y6.1, (IntKind.i64.wrap (a2 + 1)), y6.2))
 else
 some (.inr (a1, a3))
def ref05_Put (l : (List Pair)) (key val : Str) : Option ((List Pair)) :=
 (ref05_Find l key).bind fun y1 =>
 (loop (fun (s1 : Bool × Int × (List Pair)) => ref05_Put_l2 l key val y1 s1.1 s1.2.1 s1.2.2) (false, (0 : Int), ([] : (List Pair)))).bind fun (y2 : Bool × (List Pair)) =>
 (if (!y2.1) then
 need ((y2.2.length + 1) * 32 ≤ 140737488355328) <|
 some (y2.2 ++ [({ Key := key, Val := val } : Pair)])
 else
 some y2.2).bind fun (y3 : (List Pair)) =>
 some y3
theorem ref05_Put_walk {l key val r} (h : ref05_Put l key val = some r) : pP 53 [sL encPair l, vS key, vS val] (sL encPair r) := by
 unfold ref05_Put at h
 refine pW0 Tryz.func53 rfl fun g=>go ?_
 refine cP h ref05_Find_walk fun y1 h=>go ?_
 refine lQ h (fun s1=>⟨74, 0, ofRegs [(0, sL encPair l), (1, vS key), (2, vS val), (8, vB y1.2), (9, .row 0 ((List.map encPair s1.2.2).length)), (10, vB s1.1), (11, vI s1.2.1)], [.row 90 2 (List.map encPair s1.2.2)]⟩) (aO (.exit 0) (fun y2=>⟨74, 0, ofRegs [(1, vS key), (2, vS val), (9, .row 0 ((List.map encPair y2.2).length)), (10, vB y2.1)], [.row 90 2 (List.map encPair y2.2)]⟩)) (Weak.trans (weak_nil 9 90 2 rfl) wI) ?_ <|bO fun y2 _ h w=>wk w ((k1 h (fun y3=>⟨74, 0, ofRegs [(9, .row 0 ((List.map encPair y3).length))], [.row 90 2 (List.map encPair y3)]⟩) (fun y3 h=>go ?_) fun y3 h=>eF))
 rintro y2 ⟨a1,a2,a3⟩ v1 h r
 replace h : ref05_Put_l2 l key val y1 a1 a2 a3 = some v1 := h
 unfold ref05_Put_l2 at h
 dsimp only
 refine go ?_
 refine ⟨_, (len_map _ _).symm, go ?_⟩
 refine cC h rfl (fun c1 h=>gN 1 ?_) fun c1 h=>xE
 refine k1 h (fun y4=>⟨74, 0, ofRegs [(0, sL encPair l), (1, vS key), (2, vS val), (8, vB y1.2), (9, .row 0 ((List.map encPair y4.2).length)), (10, vB y4.1), (11, vI a2)], [.row 90 2 (List.map encPair y4.2)]⟩) (fun y4 h=>gN 1 ?_) fun y4 h=>cN
 refine kS h (Sum.elim (aO .normal (fun v2=>⟨74, 0, ofRegs [(0, sL encPair l), (1, vS key), (2, vS val), (8, vB y1.2), (9, .row 0 ((List.map encPair v2.2).length)), (10, vB v2.1), (11, vI a2)], [.row 90 2 (List.map encPair v2.2)]⟩)) (aO (.exit 1) (fun _=>⟨74, 0, ofRegs [(0, sL encPair l), (1, vS key), (2, vS val), (8, vB y1.2), (9, .row 0 ((List.map encPair (a3 ++ [({ Key := key, Val := val } : Pair)])).length)), (10, vB true), (11, vI a2)], [.row 90 2 (List.map encPair (a3 ++ [({ Key := key, Val := val } : Pair)]))]⟩))) (fun y5 h=>(k1 h (fun y6=>⟨74, 0, ofRegs [(0, sL encPair l), (1, vS key), (2, vS val), (8, vB y1.2), (9, .row 0 ((List.map encPair a3).length)), (10, vB a1), (11, vI a2), (50, vB y6)], [.row 90 2 (List.map encPair a3)]⟩) (fun y6 h=>go ?_) fun y6 h=>(cC h rfl (fun c2 h=>go ?_) fun c2 h=>cE))) <|bE (bO fun v2 _ h w=>wk w (go ?_)) <|bO fun v3 _ h w=>cEw
 refine cM h (fun c3 h=>go ?_) fun c3 h=>cE
 refine cM h (fun c4 h=>go ?_) fun c4 h=>go ?_
 refine bD h fun x1 q1 h=>⟨(ix_some q1).1, _, map_get encPair (ix_some q1).2, rfl, _, bs_eq _ _, go ?_⟩
 refine cM h (fun c5 h=>cE) fun c5 h=>go ?_
 refine cM h (fun c6 h=>⟨(ix_some q1).1, _, map_get encPair (ix_some q1).2, rfl, go ?_⟩) fun c6 h=>cE
 exact cP h ref01_Less_walk fun y7 h=>cE
 refine cM h (fun c7 h=>go ?_) fun c7 h=>cE
 refine bD h fun x2 q2 h=>⟨(ix_some q2).1, _, map_get encPair (ix_some q2).2, rfl, go ?_⟩
 exact cP h ref01_Less_walk fun y8 h=>cE
 refine ⟨List.map encPair [({ Key := key, Val := val } : Pair)], rfl, rfl, rfl, go ?_⟩
 refine nD h fun p1 h=>⟨by simp only [List.length_map]; exact p1, List.map encPair (a3 ++ [({ Key := key, Val := val } : Pair)]), map_app encPair _ _ rfl rfl, go ?_⟩
 exact cC h rfl (fun c8 h=>cE) fun c8 h=>cE
 refine bD h fun x3 q3 h=>⟨(ix_some q3).1, _, map_get encPair (ix_some q3).2, rfl, List.map encPair [x3], rfl, rfl, rfl, go ?_⟩
 refine nD h fun p2 h=>⟨by simp only [List.length_map]; exact p2, List.map encPair (v2.2 ++ [x3]), map_app encPair _ _ rfl rfl, cE⟩
 refine cC h rfl (fun c9 h=>go ?_) fun c9 h=>cE
 refine ⟨List.map encPair [({ Key := key, Val := val } : Pair)], rfl, rfl, rfl, go ?_⟩
 refine nD h fun p3 h=>⟨by simp only [List.length_map]; exact p3, List.map encPair (y2.2 ++ [({ Key := key, Val := val } : Pair)]), map_app encPair _ _ rfl rfl, cE⟩
def ref05_Apply_l2 (w : (List Write)) (a1 : (List Pair)) (a2 : Int) : Option (((List Pair) × Int) ⊕ ((List Pair))) :=
 if (decide (a2 < (w.length : Int))) then
 ((ix w a2).bind fun x1 =>
 if x1.Del then
 (ref05_Drop a1 x1.Key).bind fun y1 =>
 some y1
 else
 (ref05_Put a1 x1.Key x1.Val).bind fun y2 =>
 some y2).bind fun (y3 : (List Pair)) =>
 some (.inl (y3, (IntKind.i64.wrap (a2 + 1))))
 else
 some (.inr a1)
def ref05_Apply (l : (List Pair)) (w : (List Write)) : Option ((List Pair)) :=
 need ((([] : List Pair).length + l.length) * 32 ≤ 140737488355328) <|
 (loop (fun (s1 : (List Pair) × Int) => ref05_Apply_l2 w s1.1 s1.2) ((([] : List Pair) ++ l), (0 : Int))).bind fun (y1 : (List Pair)) =>
 some y1
theorem ref05_Apply_walk {l w r} (h : ref05_Apply l w = some r) : pP 52 [sL encPair l, sL encWrite w] (sL encPair r) := by
 unfold ref05_Apply at h
 refine pW0 Tryz.func52 rfl fun g=>go ?_
 refine ⟨List.map encPair ([] : List Pair), rfl, rfl, map_len (f := encPair) (n := 2) (fun _ => rfl) _, go ?_⟩
 refine nD h fun p1 h=>⟨by simp only [List.length_map]; exact p1, List.map encPair (([] : List Pair) ++ l), map_app encPair _ _ rfl rfl, go ?_⟩
 refine lQ h (fun s1=>⟨41, 0, ofRegs [(1, sL encWrite w), (5, sL encPair s1.1), (6, vI s1.2)], []⟩) (aO (.exit 0) (fun y1=>⟨41, 0, ofRegs [(5, sL encPair y1)], []⟩)) (Weak.trans (weak_freeze 0 rfl) (wF .rest (.s (.f (.all rfl))))) ?_ <|bO fun y1 _ h w=>wk w eF
 rintro y1 ⟨a1,a2⟩ v1 h r
 replace h : ref05_Apply_l2 w a1 a2 = some v1 := h
 unfold ref05_Apply_l2 at h
 dsimp only
 refine go ?_
 refine ⟨_, (len_map _ _).symm, go ?_⟩
 refine cC h rfl (fun c1 h=>gN 1 ?_) fun c1 h=>xE
 refine k1 h (fun y2=>⟨41, 0, ofRegs [(1, sL encWrite w), (5, sL encPair y2), (6, vI a2)], []⟩) (fun y2 h=>go ?_) fun y2 h=>cN
 refine bD h fun x1 q1 h=>⟨(ix_some q1).1, _, map_get encWrite (ix_some q1).2, rfl, go ?_⟩
 refine cC h rfl (fun c2 h=>go ?_) fun c2 h=>go ?_
 refine ⟨(ix_some q1).1, _, map_get encWrite (ix_some q1).2, rfl, go ?_⟩
 exact cP h ref05_Drop_walk fun y3 h=>cE
 refine Draw.one 13 (.take 0 (.take 1 (.take 2 (.take 3 (.take 4 (.take 5 (.take 6 (.take 7 (.take 8 (.take 9 (.take 10 (.alt 11 (.take 12 (.fin)) (.nil))))))))))))) [] (by kernel_rfl) ⟨(ix_some q1).1, _, map_get encWrite (ix_some q1).2, rfl, (ix_some q1).1, _, map_get encWrite (ix_some q1).2, rfl, go ?_, ⟨⟩⟩
 exact cP h ref05_Put_walk fun y4 h=>cE
def ref07_Do (s : State) (b : Batch) : Option (State × Int) :=
 (ref07_May b).bind fun y1 =>
 if (!y1) then some (s, 1) else
 (ref07_Decided s b.Token).bind fun y2 =>
 if y2.2 then some (s, 8) else
 (ref05_Apply s.Data b.Writes).bind fun y3 =>
 (ref05_Put s.Toks b.Token (if (decide (b.Kind = 2)) then [103] else [99])).bind fun y4 =>
 some (({ Data := y3, Toks := y4 } : State), 0)
theorem ref07_Do_walk {s b r} (h : ref07_Do s b = some r) : pP 18 [.agg (encState s), .agg (encBatch b)] (.tup [.agg (encState r.1), vI r.2]) := by
 unfold ref07_Do at h
 refine pW0 Tryz.func18 rfl fun g=>go ?_
 refine cP h ref07_May_walk fun y1 h=>go ?_
 refine cC h rfl (fun c1 h=>eF) fun c1 h=>go ?_
 refine cP h ref07_Decided_walk fun y2 h=>go ?_
 refine cC h rfl (fun c2 h=>eF) fun c2 h=>gN 3 ?_
 refine k0 ⟨39, 0, ofRegs [(2, .ptr 0 0), (3, .ptr 1 0), (4, .ptr 2 0), (9, vS (if (decide (b.Kind = 2)) then [103] else [99]))], [.var 36 (encState s), .var 25 (encBatch b), .var 36 [vN, vN]]⟩ (go ?_) (go ?_)
 exact cD (decide (b.Kind = 2)) rfl (fun i1=>cI) fun i1=>cI
 refine Draw.one 12 (.take 0 (.take 1 (.take 2 (.take 3 (.take 5 (.take 6 (.take 7 (.take 8 (.take 9 (.alt 4 (.alt 10 (.take 11 (.fin)) (.nil)) (.nil))))))))))) [] (by kernel_rfl) ⟨go ?_, ⟨⟩⟩
 refine cP h ref05_Apply_walk fun y3 h=>⟨go ?_, ⟨⟩⟩
 exact cP h ref05_Put_walk fun y4 h=>eF
def law08_comes_l2 (l : (List Batch)) (n a1 : Int) (a2 a3 : (List Pair)) : Option ((Int × (List Pair) × (List Pair)) ⊕ ((List Pair) × (List Pair))) :=
 if (decide (a1 < n)) then
 (ix l a1).bind fun x1 =>
 (ref07_Do ({ Data := a2, Toks := a3 } : State) x1).bind fun y1 =>
 some (.inl ((IntKind.i64.wrap (a1 + 1)), y1.1.Data, y1.1.Toks))
 else
 some (.inr (a2, a3))
def law08_comes (l : (List Batch)) (n : Int) : Option (State) :=
 (loop (fun (s1 : Int × (List Pair) × (List Pair)) => law08_comes_l2 l n s1.1 s1.2.1 s1.2.2) ((0 : Int), ([] : (List Pair)), ([] : (List Pair)))).bind fun (y1 : (List Pair) × (List Pair)) =>
 some ({ Data := y1.1, Toks := y1.2 } : State)
theorem law08_comes_walk {l n r} (h : law08_comes l n = some r) : pP 29 [sL encBatch l, vI n] (.agg (encState r)) := by
 unfold law08_comes at h
 refine pW0 Tryz.func29 rfl fun g=>go ?_
 refine lQ h (fun s1=>⟨23, 0, ofRegs [(0, sL encBatch l), (1, vI n), (4, .ptr 0 0), (5, .ptr 1 0), (6, vI s1.1)], [.var 36 [vN, vN], .var 36 [sL encPair s1.2.1, sL encPair s1.2.2]]⟩) (aO (.exit 0) (fun y1=>⟨23, 0, ofRegs [(4, .ptr 0 0), (5, .ptr 1 0)], [.var 36 [vN, vN], .var 36 [sL encPair y1.1, sL encPair y1.2]]⟩)) (wF (.s (.cons (.var (.cons (.nil) (.cons (.nil) (.nil)))) .rest)) (.all rfl)) ?_ <|bO fun y1 _ h w=>wk w eF
 rintro y1 ⟨a1,a2,a3⟩ v1 h r
 replace h : law08_comes_l2 l n a1 a2 a3 = some v1 := h
 unfold law08_comes_l2 at h
 dsimp only
 refine go ?_
 refine cC h rfl (fun c1 h=>go ?_) fun c1 h=>xE
 refine Draw.one 10 (.take 1 (.take 2 (.take 3 (.take 4 (.alt 0 (.alt 5 (.take 6 (.take 7 (.take 8 (.alt 9 (.fin) (.nil))))) (.nil)) (.nil)))))) [1, 2, 3, 4, 5, 6, 7] (by kernel_rfl) (go ?_)
 refine bD h fun x1 q1 h=>⟨(ix_some q1).1, _, map_get encBatch (ix_some q1).2, rfl, ⟨go ?_, ⟨⟩⟩, ⟨⟩⟩
 exact cP h ref07_Do_walk fun y2 h=>⟨cN, ⟨⟩⟩
def law08_KvLasts_l72 (a1 : (List File)) (x1 : Act) (a2 : Int) (a3 : (List Int)) : Option ((Int × (List Int)) ⊕ ((List Int))) :=
 if (decide (a2 < (a1.length : Int))) then
 need ((a3.length + 1) * 8 ≤ 140737488355328) <|
 some (.inl ((IntKind.i64.wrap (a2 + 1)), (a3 ++ [x1.N])))
 else
 some (.inr a3)
def law08_KvLasts_l74 (a1 : (List Batch)) (y1 : Store × Int) (a2 a3 : Int) : Option ((Int × Int) ⊕ (Int)) :=
 if (decide (a3 ≤ (a1.length : Int))) then
 ((law08_comes a1 a3).bind fun y2 =>
 (ref07_Same y2 y1.1.S).bind fun y3 =>
 if (y3 && (decide (a2 < 0))) then some a3 else
 some a2).bind fun (y4 : Int) =>
 some (.inl (y4, (IntKind.i64.wrap (a3 + 1))))
 else
 some (.inr a2)
def law08_KvLasts_l62 (l : (List Act)) (a1 : Int) (a2 : (List File)) (a3 a4 : Int) (a5 : Bool) (a6 a7 a8 : Int) (a9 a10 : (List Pair)) (a11 : Bool) (a12 : (List Batch)) (a13 : Int) : Option ((Int × (List File) × Int × Int × Bool × Int × Int × Int × (List Pair) × (List Pair) × Bool × (List Batch) × Int) ⊕ ((Bool) ⊕ (Unit))) :=
 if ((decide (a1 < (l.length : Int))) && (decide (a1 < 200))) then
 ((ix l a1).bind fun x1 =>
 if (decide (x1.Kind = 1)) then
 (kv_Commit ({ D := ({ Files := a2, Room := a3, Fuse := a4, Off := a5 } : Disk), From := a6, Seg := a7, Run := a8, S := ({ Data := a9, Toks := a10 } : State), Down := a11 } : Store) x1.B).bind fun y1 =>
 if (decide (y1.2 = 0)) then
 need ((([] : List Batch).length + a12.length) * 48 ≤ 140737488355328) <|
 need (((([] : List Batch) ++ a12).length + 1) * 48 ≤ 140737488355328) <|
 some (.inl (y1.1.D.Files, y1.1.D.Room, y1.1.D.Fuse, y1.1.D.Off, y1.1.From, y1.1.Seg, y1.1.Run, y1.1.S.Data, y1.1.S.Toks, y1.1.Down, ((([] : List Batch) ++ a12) ++ [x1.B]), (((([] : List Batch) ++ a12) ++ [x1.B]).length : Int)))
 else
 if ((decide (y1.2 = 6)) && (!a11)) then
 need ((([] : List Batch).length + a12.length) * 48 ≤ 140737488355328) <|
 need (((([] : List Batch) ++ a12).length + 1) * 48 ≤ 140737488355328) <|
 some (.inl (y1.1.D.Files, y1.1.D.Room, y1.1.D.Fuse, y1.1.D.Off, y1.1.From, y1.1.Seg, y1.1.Run, y1.1.S.Data, y1.1.S.Toks, y1.1.Down, ((([] : List Batch) ++ a12) ++ [x1.B]), a13))
 else
 some (.inl (y1.1.D.Files, y1.1.D.Room, y1.1.D.Fuse, y1.1.D.Off, y1.1.From, y1.1.Seg, y1.1.Run, y1.1.S.Data, y1.1.S.Toks, y1.1.Down, a12, a13))
 else
 if (decide (x1.Kind = 2)) then
 (kv_Check ({ D := ({ Files := a2, Room := a3, Fuse := a4, Off := a5 } : Disk), From := a6, Seg := a7, Run := a8, S := ({ Data := a9, Toks := a10 } : State), Down := a11 } : Store)).bind fun y2 =>
 some (.inl (y2.1.D.Files, y2.1.D.Room, y2.1.D.Fuse, y2.1.D.Off, y2.1.From, y2.1.Seg, y2.1.Run, y2.1.S.Data, y2.1.S.Toks, y2.1.Down, a12, a13))
 else
 if (decide (x1.Kind = 3)) then
 (kv_Arm ({ D := ({ Files := a2, Room := a3, Fuse := a4, Off := a5 } : Disk), From := a6, Seg := a7, Run := a8, S := ({ Data := a9, Toks := a10 } : State), Down := a11 } : Store) x1.N).bind fun y3 =>
 some (.inl (y3.D.Files, y3.D.Room, y3.D.Fuse, y3.D.Off, y3.From, y3.Seg, y3.Run, y3.S.Data, y3.S.Toks, y3.Down, a12, a13))
 else
 if (decide (x1.Kind = 4)) then
 (loop (fun (s1 : Int × (List Int)) => law08_KvLasts_l72 a2 x1 s1.1 s1.2) ((0 : Int), ([] : (List Int)))).bind fun (y4 : (List Int)) =>
 (kv_Crash ({ D := ({ Files := a2, Room := a3, Fuse := a4, Off := a5 } : Disk), From := a6, Seg := a7, Run := a8, S := ({ Data := a9, Toks := a10 } : State), Down := a11 } : Store) y4).bind fun y5 =>
 if (decide (y5.2 = 5)) then some (.inr true) else
 (kv_Open y5.1.D).bind fun y6 =>
 (ref08_Same y5.1 y6.1).bind fun y7 =>
 if ((!(decide (y5.2 = 0))) || ((!(decide (y6.2 = 0))) || (!y7))) then some (.inr false) else
 (loop (fun (s2 : Int × Int) => law08_KvLasts_l74 a12 y5 s2.1 s2.2) (((-1) : Int), a13)).bind fun (y8 : Int) =>
 if (decide (y8 < 0)) then some (.inr false) else
 need ((0 : Int) ≤ (0 : Int) ∧ 0 ≤ y8 ∧ y8 ≤ (a12.length : Int)) <|
 some (.inl (y5.1.D.Files, y5.1.D.Room, y5.1.D.Fuse, y5.1.D.Off, y5.1.From, y5.1.Seg, y5.1.Run, y5.1.S.Data, y5.1.S.Toks, y5.1.Down, (cut a12 0 y8), y8))
 else
 some (.inl (a2, a3, a4, a5, a6, a7, a8, a9, a10, a11, a12, a13))).bind fun (y9 : ((List File) × Int × Int × Bool × Int × Int × Int × (List Pair) × (List Pair) × Bool × (List Batch) × Int) ⊕ (Bool)) =>
 match y9 with
 | (.inl v1) =>
  some (.inl ((IntKind.i64.wrap (a1 + 1)), v1.1, v1.2.1, v1.2.2.1, v1.2.2.2.1, v1.2.2.2.2.1, v1.2.2.2.2.2.1, v1.2.2.2.2.2.2.1, v1.2.2.2.2.2.2.2.1, v1.2.2.2.2.2.2.2.2.1, v1.2.2.2.2.2.2.2.2.2.1, v1.2.2.2.2.2.2.2.2.2.2.1, v1.2.2.2.2.2.2.2.2.2.2.2))
 | (.inr v2) =>
 some (.inr (.inl v2))
 else
 some (.inr (.inr ()))
def law08_KvLasts (room : Int) (l : (List Act)) : Option (Bool) :=
 law08_shown.bind fun y1 =>
 (ref03_New room).bind fun y2 =>
 (kv_Open y2.1).bind fun y4 =>
 if ((!(decide (y2.2 = 0))) || (!(decide (y4.2 = 0)))) then
 if y1 then some (!(decide (y2.2 = 0))) else
 some false
 else
 (loop (fun (s1 : Int × (List File) × Int × Int × Bool × Int × Int × Int × (List Pair) × (List Pair) × Bool × (List Batch) × Int) => law08_KvLasts_l62 l s1.1 s1.2.1 s1.2.2.1 s1.2.2.2.1 s1.2.2.2.2.1 s1.2.2.2.2.2.1 s1.2.2.2.2.2.2.1 s1.2.2.2.2.2.2.2.1 s1.2.2.2.2.2.2.2.2.1 s1.2.2.2.2.2.2.2.2.2.1 s1.2.2.2.2.2.2.2.2.2.2.1 s1.2.2.2.2.2.2.2.2.2.2.2.1 s1.2.2.2.2.2.2.2.2.2.2.2.2) ((0 : Int), y4.1.D.Files, y4.1.D.Room, y4.1.D.Fuse, y4.1.D.Off, y4.1.From, y4.1.Seg, y4.1.Run, y4.1.S.Data, y4.1.S.Toks, y4.1.Down, ([] : (List Batch)), (0 : Int))).bind fun (y6 : (Bool) ⊕ (Unit)) =>
 match y6 with
 | (.inl v1) =>
  some v1
 | (.inr v2) =>
 some y1
theorem law08_KvLasts_walk {room l r} (h : law08_KvLasts room l = some r) : pP 7 [vI room, sL encAct l] (vB r) := by
 unfold law08_KvLasts at h
 refine pW0 Tryz.func7 rfl fun g=>go ?_
 refine cP h law08_shown_walk fun y1 h=>go ?_
 refine cP h ref03_New_walk fun y2 h=>go ?_
 refine cP h kv_Open_walk fun y4 h=>gN 1 ?_
 refine k0 ⟨219, 0, ofRegs [(1, sL encAct l), (5, vB y1), (7, vI y2.2), (8, .ptr 1 0), (42, vB ((!(decide (y2.2 = 0))) || (!(decide (y4.2 = 0)))))], [.gone, .var 38 (encStore y4.1)]⟩ (go ?_) ((cC h rfl (fun c1 h=>go ?_) fun c1 h=>go ?_))
 refine cK (!(decide (y2.2 = 0))) (fun i1=>go ?_) fun i1=>go ?_
 exact ⟨rfl, (wF (.g .rest) (.s (.s (.s (.s (.q (.all rfl)))))))⟩
 exact ⟨rfl, (wF (.g .rest) (.s (.s (.s (.s (.q (.all rfl)))))))⟩
 exact cM h (fun c2 h=>eF) fun c2 h=>eF
 refine lQ h (fun s1=>⟨219, 0, ofRegs [(1, sL encAct l), (5, vB y1), (10, .ptr 2 0), (11, vI s1.1)], [.gone, .gone, .var 70 [sL encFile s1.2.1, vI s1.2.2.1, vI s1.2.2.2.1, vB s1.2.2.2.2.1, vI s1.2.2.2.2.2.1, vI s1.2.2.2.2.2.2.1, vI s1.2.2.2.2.2.2.2.1, sL encPair s1.2.2.2.2.2.2.2.2.1, sL encPair s1.2.2.2.2.2.2.2.2.2.1, vB s1.2.2.2.2.2.2.2.2.2.2.1, sL encBatch s1.2.2.2.2.2.2.2.2.2.2.2.1, vI s1.2.2.2.2.2.2.2.2.2.2.2.2]]⟩) (Sum.elim (aO .ret (fun v1=>⟨219, 0, ofRegs [(4, vB v1)], []⟩)) (aO (.exit 0) (fun _=>⟨219, 0, ofRegs [(5, vB y1)], []⟩))) (wF (.s (.g (.cons (.var (.cons (.same rfl) (.cons (.same rfl) (.cons (.same rfl) (.cons (.same rfl) (.cons (.same rfl) (.cons (.same rfl) (.cons (.same rfl) (.cons (.same rfl) (.cons (.same rfl) (.cons (.same rfl) (.cons (.nil) (.cons (.same rfl) (.nil)))))))))))))) .rest))) (.all rfl)) ?_ <|bE (bO fun v1 _ h w=>eFw) <|bO fun v2 _ h w=>wk w eF
 rintro y6 ⟨a1,a2,a3,a4,a5,a6,a7,a8,a9,a10,a11,a12,a13⟩ v3 h r
 replace h : law08_KvLasts_l62 l a1 a2 a3 a4 a5 a6 a7 a8 a9 a10 a11 a12 a13 = some v3 := h
 unfold law08_KvLasts_l62 at h
 dsimp only
 refine gN 1 ?_
 refine k0 ⟨219, 0, ofRegs [(1, sL encAct l), (5, vB y1), (10, .ptr 2 0), (11, vI a1), (57, vB ((decide (a1 < (l.length : Int))) && (decide (a1 < 200))))], [.gone, .gone, .var 70 [sL encFile a2, vI a3, vI a4, vB a5, vI a6, vI a7, vI a8, sL encPair a9, sL encPair a10, vB a11, sL encBatch a12, vI a13]]⟩ (go ?_) ((cC h rfl (fun c3 h=>gN 1 ?_) fun c3 h=>xE))
 refine ⟨_, (len_map _ _).symm, go ?_⟩
 exact cK (decide (a1 < (l.length : Int))) (fun i1=>cI) fun i1=>cI
 refine kS h (Sum.elim (aO .normal (fun v4=>⟨219, 0, ofRegs [(1, sL encAct l), (5, vB y1), (10, .ptr 2 0), (11, vI a1)], [.gone, .gone, .var 70 [sL encFile v4.1, vI v4.2.1, vI v4.2.2.1, vB v4.2.2.2.1, vI v4.2.2.2.2.1, vI v4.2.2.2.2.2.1, vI v4.2.2.2.2.2.2.1, sL encPair v4.2.2.2.2.2.2.2.1, sL encPair v4.2.2.2.2.2.2.2.2.1, vB v4.2.2.2.2.2.2.2.2.2.1, sL encBatch v4.2.2.2.2.2.2.2.2.2.2.1, vI v4.2.2.2.2.2.2.2.2.2.2.2]]⟩)) (aO .ret (fun v5=>⟨219, 0, ofRegs [(4, vB v5)], []⟩))) (fun y7 h=>go ?_) <|bE (bO fun v4 _ h w=>wk w cN) <|bO fun v5 _ h w=>xEw
 refine bD h fun x1 q1 h=>⟨(ix_some q1).1, _, map_get encAct (ix_some q1).2, rfl, go ?_⟩
 refine cC h rfl (fun c4 h=>go ?_) fun c4 h=>go ?_
 obtain ⟨y8,q2,h⟩ := bind_some h
 refine Draw.many 13 (.take 0 (.take 1 (.take 2 (.take 3 (.take 4 (.take 5 (.take 6 (.alt 7 (.take 8 (.take 9 (.take 10 (.alt 11 (.alt 12 (.fin) (.nil)) (.nil))))) (.alt 11 (.alt 7 (.take 8 (.take 9 (.take 10 (.alt 12 (.fin) (.nil))))) (.nil)) (.nil)))))))))) [3, 4, 5, 6, 7, 8] (⟨219, 0, ofRegs [(1, sL encAct l), (5, vB y1), (10, .ptr 2 0), (11, vI a1), (12, .ptr 3 0), (77, vI y8.2)], [.gone, .gone, .var 70 [sL encFile a2, vI a3, vI a4, vB a5, vI a6, vI a7, vI a8, sL encPair a9, sL encPair a10, vB a11, sL encBatch a12, vI a13], .var 38 (encStore y8.1)]⟩) (by kernel_rfl) ⟨(ix_some q1).1, _, map_get encAct (ix_some q1).2, rfl, go ?_, ⟨⟨go ?_, ⟨⟩⟩, ⟨⟩⟩⟩ (go ?_)
 exact mP (kv_Commit_walk q2) ⟨⟨cA, ⟨⟩⟩, ⟨⟩⟩
 exact mP (kv_Commit_walk q2) ⟨cA, ⟨⟩⟩
 refine cC h rfl (fun c5 h=>go ?_) fun c5 h=>(k0 ⟨219, 0, ofRegs [(1, sL encAct l), (5, vB y1), (10, .ptr 2 0), (11, vI a1), (106, vB ((decide (y8.2 = 6)) && (!a11)))], [.gone, .gone, .var 70 [sL encFile y8.1.D.Files, vI y8.1.D.Room, vI y8.1.D.Fuse, vB y8.1.D.Off, vI y8.1.From, vI y8.1.Seg, vI y8.1.Run, sL encPair y8.1.S.Data, sL encPair y8.1.S.Toks, vB y8.1.Down, sL encBatch a12, vI a13]]⟩ (go ?_) ((cC h rfl (fun c6 h=>go ?_) fun c6 h=>cE)))
 obtain ⟨p1,h⟩ := need_some h
 obtain ⟨p2,h⟩ := need_some h
 refine Draw.many 12 (.take 1 (.take 2 (.take 4 (.take 5 (.take 6 (.take 7 (.take 8 (.alt 0 (.alt 3 (.alt 9 (.alt 10 (.take 11 (.fin)) (.nil)) (.nil)) (.alt 9 (.alt 3 (.alt 10 (.take 11 (.fin)) (.nil)) (.nil)) (.nil))) (.alt 9 (.alt 0 (.alt 3 (.alt 10 (.take 11 (.fin)) (.nil)) (.nil)) (.nil)) (.nil)))))))))) [] (⟨219, 0, ofRegs [(1, sL encAct l), (5, vB y1), (10, .ptr 2 0), (11, vI a1), (95, sL encBatch ((([] : List Batch) ++ a12) ++ [x1.B])), (96, .ptr 2 10)], [.gone, .gone, .var 70 [sL encFile y8.1.D.Files, vI y8.1.D.Room, vI y8.1.D.Fuse, vB y8.1.D.Off, vI y8.1.From, vI y8.1.Seg, vI y8.1.Run, sL encPair y8.1.S.Data, sL encPair y8.1.S.Toks, vB y8.1.Down, sL encBatch a12, vI a13], .var 38 (encStore y8.1)]⟩) (by kernel_rfl) ⟨(ix_some q1).1, _, map_get encAct (ix_some q1).2, rfl, ⟨List.map encBatch ([] : List Batch), rfl, ⟨rfl, map_len (f := encBatch) (n := 3) (fun _ => rfl) _, by simp only [List.length_map]; exact p1, List.map encBatch (([] : List Batch) ++ a12), map_app encBatch _ _ rfl rfl, ⟨List.map encBatch [x1.B], rfl, ⟨rfl, rfl, by simp only [List.length_map]; exact p2, List.map encBatch ((([] : List Batch) ++ a12) ++ [x1.B]), map_app encBatch _ _ rfl rfl, go ?_⟩, ⟨⟩⟩, ⟨⟩⟩, ⟨⟨List.map encBatch [x1.B], rfl, ⟨rfl, map_len (f := encBatch) (n := 3) (fun _ => rfl) _, by simp only [List.length_map]; exact p1, List.map encBatch (([] : List Batch) ++ a12), map_app encBatch _ _ rfl rfl, ⟨rfl, rfl, by simp only [List.length_map]; exact p2, List.map encBatch ((([] : List Batch) ++ a12) ++ [x1.B]), map_app encBatch _ _ rfl rfl, go ?_⟩, ⟨⟩⟩, ⟨⟩⟩, ⟨⟩⟩⟩, ⟨⟨List.map encBatch [x1.B], rfl, ⟨List.map encBatch ([] : List Batch), rfl, ⟨rfl, map_len (f := encBatch) (n := 3) (fun _ => rfl) _, by simp only [List.length_map]; exact p1, List.map encBatch (([] : List Batch) ++ a12), map_app encBatch _ _ rfl rfl, ⟨rfl, rfl, by simp only [List.length_map]; exact p2, List.map encBatch ((([] : List Batch) ++ a12) ++ [x1.B]), map_app encBatch _ _ rfl rfl, go ?_⟩, ⟨⟩⟩, ⟨⟩⟩, ⟨⟩⟩, ⟨⟩⟩⟩ (go ?_)
 exact Weak.trans (weak_freeze 4 rfl) (wF .rest (.s (.s (.s (.s (.f (.all rfl)))))))
 exact Weak.trans (weak_freeze 4 rfl) (wF .rest (.s (.s (.s (.s (.f (.all rfl)))))))
 exact Weak.trans (weak_freeze 5 rfl) (wF .rest (.s (.s (.s (.s (.f (.all rfl)))))))
 refine ⟨_, (len_map _ _).symm, cE⟩
 exact cK (decide (y8.2 = 6)) (fun i1=>cI) fun i1=>cI
 obtain ⟨p3,h⟩ := need_some h
 obtain ⟨p4,h⟩ := need_some h
 refine Draw.many 12 (.take 1 (.take 2 (.take 4 (.take 5 (.take 6 (.take 7 (.take 8 (.alt 0 (.alt 3 (.alt 9 (.alt 10 (.take 11 (.fin)) (.nil)) (.nil)) (.alt 9 (.alt 3 (.alt 10 (.take 11 (.fin)) (.nil)) (.nil)) (.nil))) (.alt 9 (.alt 0 (.alt 3 (.alt 10 (.take 11 (.fin)) (.nil)) (.nil)) (.nil)) (.nil)))))))))) [] (⟨219, 0, ofRegs [(1, sL encAct l), (5, vB y1), (10, .ptr 2 0), (11, vI a1), (117, sL encBatch ((([] : List Batch) ++ a12) ++ [x1.B])), (118, .ptr 2 10)], [.gone, .gone, .var 70 [sL encFile y8.1.D.Files, vI y8.1.D.Room, vI y8.1.D.Fuse, vB y8.1.D.Off, vI y8.1.From, vI y8.1.Seg, vI y8.1.Run, sL encPair y8.1.S.Data, sL encPair y8.1.S.Toks, vB y8.1.Down, sL encBatch a12, vI a13]]⟩) (by kernel_rfl) ⟨(ix_some q1).1, _, map_get encAct (ix_some q1).2, rfl, ⟨List.map encBatch ([] : List Batch), rfl, ⟨rfl, map_len (f := encBatch) (n := 3) (fun _ => rfl) _, by simp only [List.length_map]; exact p3, List.map encBatch (([] : List Batch) ++ a12), map_app encBatch _ _ rfl rfl, ⟨List.map encBatch [x1.B], rfl, ⟨rfl, rfl, by simp only [List.length_map]; exact p4, List.map encBatch ((([] : List Batch) ++ a12) ++ [x1.B]), map_app encBatch _ _ rfl rfl, go ?_⟩, ⟨⟩⟩, ⟨⟩⟩, ⟨⟨List.map encBatch [x1.B], rfl, ⟨rfl, map_len (f := encBatch) (n := 3) (fun _ => rfl) _, by simp only [List.length_map]; exact p3, List.map encBatch (([] : List Batch) ++ a12), map_app encBatch _ _ rfl rfl, ⟨rfl, rfl, by simp only [List.length_map]; exact p4, List.map encBatch ((([] : List Batch) ++ a12) ++ [x1.B]), map_app encBatch _ _ rfl rfl, go ?_⟩, ⟨⟩⟩, ⟨⟩⟩, ⟨⟩⟩⟩, ⟨⟨List.map encBatch [x1.B], rfl, ⟨List.map encBatch ([] : List Batch), rfl, ⟨rfl, map_len (f := encBatch) (n := 3) (fun _ => rfl) _, by simp only [List.length_map]; exact p3, List.map encBatch (([] : List Batch) ++ a12), map_app encBatch _ _ rfl rfl, ⟨rfl, rfl, by simp only [List.length_map]; exact p4, List.map encBatch ((([] : List Batch) ++ a12) ++ [x1.B]), map_app encBatch _ _ rfl rfl, go ?_⟩, ⟨⟩⟩, ⟨⟩⟩, ⟨⟩⟩, ⟨⟩⟩⟩ cE
 exact Weak.trans (weak_freeze 3 rfl) (wF .rest (.s (.s (.s (.s (.f (.all rfl)))))))
 exact Weak.trans (weak_freeze 3 rfl) (wF .rest (.s (.s (.s (.s (.f (.all rfl)))))))
 exact Weak.trans (weak_freeze 4 rfl) (wF .rest (.s (.s (.s (.s (.f (.all rfl)))))))
 refine cC h rfl (fun c7 h=>go ?_) fun c7 h=>go ?_
 exact cP h kv_Check_walk fun y9 h=>cE
 refine cC h rfl (fun c8 h=>go ?_) fun c8 h=>go ?_
 refine Draw.one 9 (.take 0 (.take 1 (.take 2 (.take 3 (.take 4 (.take 5 (.take 6 (.alt 7 (.take 8 (.fin)) (.nil))))))))) [] (by kernel_rfl) ⟨(ix_some q1).1, _, map_get encAct (ix_some q1).2, rfl, go ?_, ⟨⟩⟩
 exact cP h kv_Arm_walk fun y10 h=>cE
 refine cC h rfl (fun c9 h=>go ?_) fun c9 h=>cE
 refine lQ h (fun s2=>⟨219, 0, ofRegs [(1, sL encAct l), (5, vB y1), (10, .ptr 2 0), (11, vI a1), (15, .row 3 ((List.map (encI .i64) s2.2).length)), (16, vI s2.1)], [.gone, .gone, .var 70 [sL encFile a2, vI a3, vI a4, vB a5, vI a6, vI a7, vI a8, sL encPair a9, sL encPair a10, vB a11, sL encBatch a12, vI a13], .row 3 1 (List.map (encI .i64) s2.2)]⟩) (aO (.exit 3) (fun y11=>⟨219, 0, ofRegs [(1, sL encAct l), (5, vB y1), (10, .ptr 2 0), (11, vI a1), (15, .row 3 ((List.map (encI .i64) y11).length))], [.gone, .gone, .var 70 [sL encFile a2, vI a3, vI a4, vB a5, vI a6, vI a7, vI a8, sL encPair a9, sL encPair a10, vB a11, sL encBatch a12, vI a13], .row 3 1 (List.map (encI .i64) y11)]⟩)) (Weak.trans (weak_nil 15 3 1 rfl) wI) ?_ <|bO fun y11 _ h w=>wk w (go ?_)
 rintro y11 ⟨a14,a15⟩ v6 h r
 replace h : law08_KvLasts_l72 a2 x1 a14 a15 = some v6 := h
 unfold law08_KvLasts_l72 at h
 dsimp only
 refine go ?_
 refine ⟨_, (len_map _ _).symm, go ?_⟩
 refine cC h rfl (fun c10 h=>go ?_) fun c10 h=>xE
 refine ⟨(ix_some q1).1, _, map_get encAct (ix_some q1).2, rfl, List.map (encI .i64) [x1.N], rfl, rfl, rfl, go ?_⟩
 refine nD h fun p5 h=>⟨by simp only [List.length_map]; exact p5, List.map (encI .i64) (a15 ++ [x1.N]), map_app (encI .i64) _ _ rfl rfl, cN⟩
 refine ⟨rfl, go ?_⟩
 refine cP h kv_Crash_walk fun y12 h=>go ?_
 refine cC h rfl (fun c11 h=>cE) fun c11 h=>go ?_
 refine cP h kv_Open_walk fun y13 h=>go ?_
 refine cP h ref08_Same_walk fun y14 h=>gN 1 ?_
 refine k0 ⟨219, 0, ofRegs [(1, sL encAct l), (5, vB y1), (10, .ptr 2 0), (11, vI a1), (17, .ptr 4 0), (185, vB ((!(decide (y12.2 = 0))) || ((!(decide (y13.2 = 0))) || (!y14))))], [.gone, .gone, .var 70 [sL encFile a2, vI a3, vI a4, vB a5, vI a6, vI a7, vI a8, sL encPair a9, sL encPair a10, vB a11, sL encBatch a12, vI a13], .gone, .var 38 (encStore y12.1)]⟩ (go ?_) ((cC h rfl (fun c12 h=>cE) fun c12 h=>go ?_))
 refine cK (!(decide (y12.2 = 0))) (fun i1=>go ?_) fun i1=>go ?_
 exact ⟨rfl, (wF (.s (.s (.s (.g .rest)))) (.s (.s (.s (.s (.s (.q (.all rfl))))))))⟩
 refine cK (!(decide (y13.2 = 0))) (fun i2=>go ?_) fun i2=>go ?_
 exact ⟨rfl, (wF (.s (.s (.s (.g .rest)))) (.s (.s (.s (.s (.s (.q (.all rfl))))))))⟩
 exact ⟨rfl, (wF (.s (.s (.s (.g .rest)))) (.s (.s (.s (.s (.s (.q (.all rfl))))))))⟩
 refine lQ h (fun s3=>⟨219, 0, ofRegs [(1, sL encAct l), (5, vB y1), (10, .ptr 2 0), (11, vI a1), (17, .ptr 4 0), (22, vI s3.1), (23, vI s3.2)], [.gone, .gone, .var 70 [sL encFile a2, vI a3, vI a4, vB a5, vI a6, vI a7, vI a8, sL encPair a9, sL encPair a10, vB a11, sL encBatch a12, vI a13], .gone, .var 38 (encStore y12.1)]⟩) (aO (.exit 5) (fun y15=>⟨219, 0, ofRegs [(1, sL encAct l), (5, vB y1), (10, .ptr 2 0), (11, vI a1), (17, .ptr 4 0), (22, vI y15)], [.gone, .gone, .var 70 [sL encFile a2, vI a3, vI a4, vB a5, vI a6, vI a7, vI a8, sL encPair a9, sL encPair a10, vB a11, sL encBatch a12, vI a13], .gone, .var 38 (encStore y12.1)]⟩)) wA ?_ <|bO fun y15 _ h w=>wk w (go ?_)
 rintro y15 ⟨a16,a17⟩ v7 h r
 replace h : law08_KvLasts_l74 a12 y12 a16 a17 = some v7 := h
 unfold law08_KvLasts_l74 at h
 dsimp only
 refine go ?_
 refine ⟨_, (len_map _ _).symm, go ?_⟩
 refine cC h rfl (fun c13 h=>gN 1 ?_) fun c13 h=>xE
 refine k1 h (fun y16=>⟨219, 0, ofRegs [(1, sL encAct l), (5, vB y1), (10, .ptr 2 0), (11, vI a1), (17, .ptr 4 0), (22, vI y16), (23, vI a17)], [.gone, .gone, .var 70 [sL encFile a2, vI a3, vI a4, vB a5, vI a6, vI a7, vI a8, sL encPair a9, sL encPair a10, vB a11, sL encBatch a12, vI a13], .gone, .var 38 (encStore y12.1)]⟩) (fun y16 h=>go ?_) fun y16 h=>cN
 refine cP h law08_comes_walk fun y17 h=>go ?_
 refine cP h ref07_Same_walk fun y18 h=>gN 0 ?_
 refine k0 ⟨219, 0, ofRegs [(1, sL encAct l), (5, vB y1), (10, .ptr 2 0), (11, vI a1), (17, .ptr 4 0), (22, vI a16), (23, vI a17), (207, vB (y18 && (decide (a16 < 0))))], [.gone, .gone, .var 70 [sL encFile a2, vI a3, vI a4, vB a5, vI a6, vI a7, vI a8, sL encPair a9, sL encPair a10, vB a11, sL encBatch a12, vI a13], .gone, .var 38 (encStore y12.1)]⟩ (go ?_) ?_
 exact cK (y18) (fun i1=>cI) fun i1=>cI
 exact cC h rfl (fun c14 h=>cE) fun c14 h=>cE
 refine cC h rfl (fun c15 h=>cE) fun c15 h=>go ?_
 refine Draw.one 7 (.take 0 (.take 1 (.take 2 (.take 3 (.take 4 (.take 5 (.take 6 (.fin)))))))) [] (by kernel_rfl) ⟨map_len (f := encBatch) (n := 3) (fun _ => rfl) _, go ?_⟩
 refine nD h fun p6 h=>⟨by simpa only [List.length_map] using p6, List.map encBatch (cut a12 0 y15), map_cut _ _ _ _, cE⟩
def law08_KvChecks_l2 (with_ : KvChecksIn) (a1 : Int) (a2 : (List File)) (a3 a4 : Int) (a5 : Bool) (a6 a7 a8 : Int) (a9 a10 : (List Pair)) (a11 : Bool) : Option ((Int × (List File) × Int × Int × Bool × Int × Int × Int × (List Pair) × (List Pair) × Bool) ⊕ ((List File) × Int × Int × Bool × Int × Int × Int × (List Pair) × (List Pair) × Bool)) :=
 if ((decide (a1 < (with_.L.length : Int))) && (decide (a1 < 100))) then
 (ix with_.L a1).bind fun x1 =>
 (kv_Commit ({ D := ({ Files := a2, Room := a3, Fuse := a4, Off := a5 } : Disk), From := a6, Seg := a7, Run := a8, S := ({ Data := a9, Toks := a10 } : State), Down := a11 } : Store) x1).bind fun y1 =>
 some (.inl ((IntKind.i64.wrap (a1 + 1)), y1.1.D.Files, y1.1.D.Room, y1.1.D.Fuse, y1.1.D.Off, y1.1.From, y1.1.Seg, y1.1.Run, y1.1.S.Data, y1.1.S.Toks, y1.1.Down))
 else
 some (.inr (a2, a3, a4, a5, a6, a7, a8, a9, a10, a11))
def law08_KvChecks (with_ : KvChecksIn) : Option (Bool) :=
 law08_shown.bind fun y1 =>
 (ref03_New with_.Room).bind fun y2 =>
 (kv_Open y2.1).bind fun y4 =>
 if ((!(decide (y2.2 = 0))) || (!(decide (y4.2 = 0)))) then
 if y1 then some (!(decide (y2.2 = 0))) else
 some false
 else
 (loop (fun (s1 : Int × (List File) × Int × Int × Bool × Int × Int × Int × (List Pair) × (List Pair) × Bool) => law08_KvChecks_l2 with_ s1.1 s1.2.1 s1.2.2.1 s1.2.2.2.1 s1.2.2.2.2.1 s1.2.2.2.2.2.1 s1.2.2.2.2.2.2.1 s1.2.2.2.2.2.2.2.1 s1.2.2.2.2.2.2.2.2.1 s1.2.2.2.2.2.2.2.2.2.1 s1.2.2.2.2.2.2.2.2.2.2) ((0 : Int), y4.1.D.Files, y4.1.D.Room, y4.1.D.Fuse, y4.1.D.Off, y4.1.From, y4.1.Seg, y4.1.Run, y4.1.S.Data, y4.1.S.Toks, y4.1.Down)).bind fun (y6 : (List File) × Int × Int × Bool × Int × Int × Int × (List Pair) × (List Pair) × Bool) =>
 (kv_Arm ({ D := ({ Files := y6.1, Room := y6.2.1, Fuse := y6.2.2.1, Off := y6.2.2.2.1 } : Disk), From := y6.2.2.2.2.1, Seg := y6.2.2.2.2.2.1, Run := y6.2.2.2.2.2.2.1, S := ({ Data := y6.2.2.2.2.2.2.2.1, Toks := y6.2.2.2.2.2.2.2.2.1 } : State), Down := y6.2.2.2.2.2.2.2.2.2 } : Store) with_.Fuse).bind fun y7 =>
 (kv_Check y7).bind fun y8 =>
 (kv_Crash y8.1 with_.Keeps).bind fun y9 =>
 (ref07_Same ({ Data := y6.2.2.2.2.2.2.2.1, Toks := y6.2.2.2.2.2.2.2.2.1 } : State) y8.1.S).bind fun y10 =>
 if y1 then
 if y10 then
 if (decide (y9.2 = 0)) then
 (ref07_Same ({ Data := y6.2.2.2.2.2.2.2.1, Toks := y6.2.2.2.2.2.2.2.2.1 } : State) y9.1.S).bind fun y11 =>
 some y11
 else
 some false
 else
 some false
 else
 some false
theorem law08_KvChecks_walk {with_ r} (h : law08_KvChecks with_ = some r) : pP 8 [.agg (encKvChecksIn with_)] (vB r) := by
 unfold law08_KvChecks at h
 refine pW0 Tryz.func8 rfl fun g=>go ?_
 refine cP h law08_shown_walk fun y1 h=>go ?_
 refine cP h ref03_New_walk fun y2 h=>go ?_
 refine cP h kv_Open_walk fun y4 h=>gN 1 ?_
 refine k0 ⟨100, 0, ofRegs [(4, sL encBatch with_.L), (5, vI with_.Fuse), (6, sL (encI .i64) with_.Keeps), (7, vB y1), (9, vI y2.2), (10, .ptr 2 0), (42, vB ((!(decide (y2.2 = 0))) || (!(decide (y4.2 = 0)))))], [.gone, .gone, .var 38 (encStore y4.1)]⟩ (go ?_) ((cC h rfl (fun c1 h=>go ?_) fun c1 h=>go ?_))
 refine cK (!(decide (y2.2 = 0))) (fun i1=>go ?_) fun i1=>go ?_
 exact ⟨rfl, (wF (.g (.g .rest)) (.s (.s (.s (.s (.s (.s (.q (.all rfl)))))))))⟩
 exact ⟨rfl, (wF (.g (.g .rest)) (.s (.s (.s (.s (.s (.s (.q (.all rfl)))))))))⟩
 exact cM h (fun c2 h=>eF) fun c2 h=>eF
 refine lQ h (fun s1=>⟨100, 0, ofRegs [(4, sL encBatch with_.L), (5, vI with_.Fuse), (6, sL (encI .i64) with_.Keeps), (7, vB y1), (10, .ptr 2 0), (12, vI s1.1)], [.gone, .gone, .var 38 [sL encFile s1.2.1, vI s1.2.2.1, vI s1.2.2.2.1, vB s1.2.2.2.2.1, vI s1.2.2.2.2.2.1, vI s1.2.2.2.2.2.2.1, vI s1.2.2.2.2.2.2.2.1, sL encPair s1.2.2.2.2.2.2.2.2.1, sL encPair s1.2.2.2.2.2.2.2.2.2.1, vB s1.2.2.2.2.2.2.2.2.2.2]]⟩) (aO (.exit 0) (fun y6=>⟨100, 0, ofRegs [(5, vI with_.Fuse), (6, sL (encI .i64) with_.Keeps), (7, vB y1), (10, .ptr 2 0)], [.gone, .gone, .var 38 [sL encFile y6.1, vI y6.2.1, vI y6.2.2.1, vB y6.2.2.2.1, vI y6.2.2.2.2.1, vI y6.2.2.2.2.2.1, vI y6.2.2.2.2.2.2.1, sL encPair y6.2.2.2.2.2.2.2.1, sL encPair y6.2.2.2.2.2.2.2.2.1, vB y6.2.2.2.2.2.2.2.2.2]]⟩)) wA ?_ <|bO fun y6 _ h w=>wk w (go ?_)
 rintro y6 ⟨a1,a2,a3,a4,a5,a6,a7,a8,a9,a10,a11⟩ v1 h r
 replace h : law08_KvChecks_l2 with_ a1 a2 a3 a4 a5 a6 a7 a8 a9 a10 a11 = some v1 := h
 unfold law08_KvChecks_l2 at h
 dsimp only
 refine gN 1 ?_
 refine k0 ⟨100, 0, ofRegs [(4, sL encBatch with_.L), (5, vI with_.Fuse), (6, sL (encI .i64) with_.Keeps), (7, vB y1), (10, .ptr 2 0), (12, vI a1), (55, vB ((decide (a1 < (with_.L.length : Int))) && (decide (a1 < 100))))], [.gone, .gone, .var 38 [sL encFile a2, vI a3, vI a4, vB a5, vI a6, vI a7, vI a8, sL encPair a9, sL encPair a10, vB a11]]⟩ (go ?_) ((cC h rfl (fun c3 h=>go ?_) fun c3 h=>xE))
 refine ⟨_, (len_map _ _).symm, go ?_⟩
 exact cK (decide (a1 < (with_.L.length : Int))) (fun i1=>cI) fun i1=>cI
 refine Draw.one 10 (.take 1 (.take 2 (.take 3 (.take 4 (.alt 0 (.alt 5 (.take 6 (.take 7 (.take 8 (.alt 9 (.fin) (.nil))))) (.nil)) (.nil)))))) [2, 3, 4, 5, 6, 7, 8] (by kernel_rfl) (go ?_)
 refine bD h fun x1 q1 h=>⟨(ix_some q1).1, _, map_get encBatch (ix_some q1).2, rfl, ⟨go ?_, ⟨⟩⟩, ⟨⟩⟩
 exact cP h kv_Commit_walk fun y7 h=>⟨cN, ⟨⟩⟩
 refine cP h kv_Arm_walk fun y8 h=>go ?_
 refine cP h kv_Check_walk fun y9 h=>go ?_
 refine cP h kv_Crash_walk fun y10 h=>go ?_
 refine cP h ref07_Same_walk fun y11 h=>go ?_
 refine cM h (fun c4 h=>go ?_) fun c4 h=>eF
 refine cM h (fun c5 h=>go ?_) fun c5 h=>eF
 refine cM h (fun c6 h=>go ?_) fun c6 h=>eF
 exact cP h ref07_Same_walk fun y12 h=>eF
end
end Go.Ab
