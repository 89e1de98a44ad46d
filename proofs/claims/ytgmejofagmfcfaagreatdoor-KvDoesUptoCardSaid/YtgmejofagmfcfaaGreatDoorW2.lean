/- The program's functions as plain Lean functions, and that the program comes to what they come to. Printed by a program of this session. -/
import Derived.Test.YtgmejofagmfcfaaGreatDoorW1
namespace Go.Ab
open Go.Proofs
set_option linter.unusedVariables false
set_option linter.unusedSimpArgs false
set_option maxRecDepth 100000
set_option maxHeartbeats 4000000
noncomputable section
def ref05_Find_l2 (l : (List Pair)) (key : Str) (a1 : Int) : Option ((Int) ⊕ ((Str) ⊕ (Unit))) :=
 if (decide (a1 < (l.length : Int))) then
 (ix l a1).bind fun x1 =>
 if (decide (x1.Key = key)) then some (.inr (.inl x1.Val)) else
 some (.inl (IntKind.i64.wrap (a1 + 1)))
 else
 some (.inr (.inr ()))
def ref05_Find (l : (List Pair)) (key : Str) : Option (Str × Bool) :=
 (loop (fun (s1 : Int) => ref05_Find_l2 l key s1) (0 : Int)).bind fun (y1 : (Str) ⊕ (Unit)) =>
 match y1 with
 | (.inl v1) =>
  some (v1, true)
 | (.inr v2) =>
 some ([], false)
theorem ref05_Find_walk {l key r} (h : ref05_Find l key = some r) : pP 107 [sL encPair l, vS key] (.tup [vS r.1, vB r.2]) := by
 unfold ref05_Find at h
 refine pW0 Tryz.func107 rfl fun g=>go ?_
 refine lQ h (fun s1=>⟨25, 0, ofRegs [(0, sL encPair l), (1, vS key), (6, vI s1)], []⟩) (Sum.elim (aO .ret (fun v1=>⟨25, 0, ofRegs [(4, vS v1), (5, vB true)], []⟩)) (aO (.exit 0) (fun _=>⟨25, 0, ofRegs [], []⟩))) wA ?_ <|bE (bO fun v1 _ h w=>eFw) <|bO fun v2 _ h w=>wk w eF
 rintro y1 a1 v3 h r
 replace h : ref05_Find_l2 l key a1 = some v3 := h
 unfold ref05_Find_l2 at h
 refine go ?_
 refine ⟨_, (len_map _ _).symm, go ?_⟩
 refine cC h rfl (fun c1 h=>go ?_) fun c1 h=>xE
 refine bD h fun x1 q1 h=>⟨(ix_some q1).1, _, map_get encPair (ix_some q1).2, rfl, _, bs_eq _ _, go ?_⟩
 refine cC h rfl (fun c2 h=>go ?_) fun c2 h=>cN
 refine ⟨(ix_some q1).1, _, map_get encPair (ix_some q1).2, rfl, xE⟩
def ref07_Decided (s : State) (token : Str) : Option (Str × Bool) :=
 (ref05_Find s.Toks token).bind fun y1 =>
 some (y1.1, y1.2)
theorem ref07_Decided_walk {s token r} (h : ref07_Decided s token = some r) : pP 51 [.agg (encState s), vS token] (.tup [vS r.1, vB r.2]) := by
 unfold ref07_Decided at h
 refine pW0 Tryz.func51 rfl fun g=>go ?_
 exact cP h ref05_Find_walk fun y1 h=>eF
def ref05_Drop_l2 (l : (List Pair)) (key : Str) (a1 : Int) (a2 : (List Pair)) : Option ((Int × (List Pair)) ⊕ ((List Pair))) :=
 if (decide (a1 < (l.length : Int))) then
 ((ix l a1).bind fun x1 =>
 if (!decide (x1.Key = key)) then
 need ((a2.length + 1) * 32 ≤ 140737488355328) <|
 some (a2 ++ [x1])
 else
 some a2).bind fun (y1 : (List Pair)) =>
 some (.inl ((IntKind.i64.wrap (a1 + 1)), y1))
 else
 some (.inr a2)
def ref05_Drop (l : (List Pair)) (key : Str) : Option ((List Pair)) :=
 (loop (fun (s1 : Int × (List Pair)) => ref05_Drop_l2 l key s1.1 s1.2) ((0 : Int), ([] : (List Pair)))).bind fun (y1 : (List Pair)) =>
 some y1
theorem ref05_Drop_walk {l key r} (h : ref05_Drop l key = some r) : pP 108 [sL encPair l, vS key] (sL encPair r) := by
 unfold ref05_Drop at h
 refine pW0 Tryz.func108 rfl fun g=>go ?_
 refine lQ h (fun s1=>⟨28, 0, ofRegs [(0, sL encPair l), (1, vS key), (5, .row 0 ((List.map encPair s1.2).length)), (6, vI s1.1)], [.row 90 2 (List.map encPair s1.2)]⟩) (aO (.exit 0) (fun y1=>⟨28, 0, ofRegs [(5, .row 0 ((List.map encPair y1).length))], [.row 90 2 (List.map encPair y1)]⟩)) (Weak.trans (weak_nil 5 90 2 rfl) wI) ?_ <|bO fun y1 _ h w=>wk w eF
 rintro y1 ⟨a1,a2⟩ v1 h r
 replace h : ref05_Drop_l2 l key a1 a2 = some v1 := h
 unfold ref05_Drop_l2 at h
 dsimp only
 refine go ?_
 refine ⟨_, (len_map _ _).symm, go ?_⟩
 refine cC h rfl (fun c1 h=>gN 1 ?_) fun c1 h=>xE
 refine k1 h (fun y2=>⟨28, 0, ofRegs [(0, sL encPair l), (1, vS key), (5, .row 0 ((List.map encPair y2).length)), (6, vI a1)], [.row 90 2 (List.map encPair y2)]⟩) (fun y2 h=>go ?_) fun y2 h=>cN
 refine bD h fun x1 q1 h=>⟨(ix_some q1).1, _, map_get encPair (ix_some q1).2, rfl, _, bs_ne _ _, go ?_⟩
 refine cC h rfl (fun c2 h=>go ?_) fun c2 h=>cE
 refine ⟨(ix_some q1).1, _, map_get encPair (ix_some q1).2, rfl, List.map encPair [x1], rfl, rfl, rfl, go ?_⟩
 refine nD h fun p1 h=>⟨by simp only [List.length_map]; exact p1, List.map encPair (a2 ++ [x1]), map_app encPair _ _ rfl rfl, cE⟩
def ref05_Put_l2 (l : (List Pair)) (key val : Str) (y1 : Str × Bool) (a1 : Bool) (a2 : Int) (a3 : (List Pair)) : Option ((Bool × Int × (List Pair)) ⊕ (Bool × (List Pair))) :=
 if (decide (a2 < (l.length : Int))) then
 (((if (!a1) then
 if y1.2 then
 (ix l a2).bind fun x1 =>
 if (decide (x1.Key = key)) then some true else
 if (!y1.2) then
 (ref01_Less key x1.Key).bind fun y2 =>
 some y2
 else
 some false
 else
 if (!y1.2) then
 (ix l a2).bind fun x2 =>
 (ref01_Less key x2.Key).bind fun y3 =>
 some y3
 else
 some false
 else
 some false).bind fun (y4 : Bool) =>
 if y4 then
 need ((a3.length + 1) * 32 ≤ 140737488355328) <|
 if y1.2 then some (.inr ()) else
 some (.inl (true, (a3 ++ [({ Key := key, Val := val } : Pair)])))
 else
 some (.inl (a1, a3))).bind fun (y5 : (Bool × (List Pair)) ⊕ (Unit)) =>
 match y5 with
 | (.inl v1) =>
  (ix l a2).bind fun x3 =>
  need ((v1.2.length + 1) * 32 ≤ 140737488355328) <|
  some (v1.1, (v1.2 ++ [x3]))
 | (.inr v2) =>
 some (true, (a3 ++ [({ Key := key, Val := val } : Pair)]))).bind fun (y6 : Bool × (List Pair)) =>
 some (.inl (y6.1, (IntKind.i64.wrap (a2 + 1)), y6.2))
 else
 some (.inr (a1, a3))
def ref05_Put (l : (List Pair)) (key val : Str) : Option ((List Pair)) :=
 (ref05_Find l key).bind fun y1 =>
 (loop (fun (s1 : Bool × Int × (List Pair)) => ref05_Put_l2 l key val y1 s1.1 s1.2.1 s1.2.2) (false, (0 : Int), ([] : (List Pair)))).bind fun (y2 : Bool × (List Pair)) =>
 (if (!y2.1) then
 need ((y2.2.length + 1) * 32 ≤ 140737488355328) <|
 some (y2.2 ++ [({ Key := key, Val := val } : Pair)])
 else
 some y2.2).bind fun (y3 : (List Pair)) =>
 some y3
theorem ref05_Put_walk {l key val r} (h : ref05_Put l key val = some r) : pP 53 [sL encPair l, vS key, vS val] (sL encPair r) := by
 unfold ref05_Put at h
 refine pW0 Tryz.func53 rfl fun g=>go ?_
 refine cP h ref05_Find_walk fun y1 h=>go ?_
 refine lQ h (fun s1=>⟨74, 0, ofRegs [(0, sL encPair l), (1, vS key), (2, vS val), (8, vB y1.2), (9, .row 0 ((List.map encPair s1.2.2).length)), (10, vB s1.1), (11, vI s1.2.1)], [.row 90 2 (List.map encPair s1.2.2)]⟩) (aO (.exit 0) (fun y2=>⟨74, 0, ofRegs [(1, vS key), (2, vS val), (9, .row 0 ((List.map encPair y2.2).length)), (10, vB y2.1)], [.row 90 2 (List.map encPair y2.2)]⟩)) (Weak.trans (weak_nil 9 90 2 rfl) wI) ?_ <|bO fun y2 _ h w=>wk w ((k1 h (fun y3=>⟨74, 0, ofRegs [(9, .row 0 ((List.map encPair y3).length))], [.row 90 2 (List.map encPair y3)]⟩) (fun y3 h=>go ?_) fun y3 h=>eF))
 rintro y2 ⟨a1,a2,a3⟩ v1 h r
 replace h : ref05_Put_l2 l key val y1 a1 a2 a3 = some v1 := h
 unfold ref05_Put_l2 at h
 dsimp only
 refine go ?_
 refine ⟨_, (len_map _ _).symm, go ?_⟩
 refine cC h rfl (fun c1 h=>gN 1 ?_) fun c1 h=>xE
 refine k1 h (fun y4=>⟨74, 0, ofRegs [(0, sL encPair l), (1, vS key), (2, vS val), (8, vB y1.2), (9, .row 0 ((List.map encPair y4.2).length)), (10, vB y4.1), (11, vI a2)], [.row 90 2 (List.map encPair y4.2)]⟩) (fun y4 h=>gN 1 ?_) fun y4 h=>cN
 refine kS h (Sum.elim (aO .normal (fun v2=>⟨74, 0, ofRegs [(0, sL encPair l), (1, vS key), (2, vS val), (8, vB y1.2), (9, .row 0 ((List.map encPair v2.2).length)), (10, vB v2.1), (11, vI a2)], [.row 90 2 (List.map encPair v2.2)]⟩)) (aO (.exit 1) (fun _=>⟨74, 0, ofRegs [(0, sL encPair l), (1, vS key), (2, vS val), (8, vB y1.2), (9, .row 0 ((List.map encPair (a3 ++ [({ Key := key, Val := val } : Pair)])).length)), (10, vB true), (11, vI a2)], [.row 90 2 (List.map encPair (a3 ++ [({ Key := key, Val := val } : Pair)]))]⟩))) (fun y5 h=>(k1 h (fun y6=>⟨74, 0, ofRegs [(0, sL encPair l), (1, vS key), (2, vS val), (8, vB y1.2), (9, .row 0 ((List.map encPair a3).length)), (10, vB a1), (11, vI a2), (50, vB y6)], [.row 90 2 (List.map encPair a3)]⟩) (fun y6 h=>go ?_) fun y6 h=>(cC h rfl (fun c2 h=>go ?_) fun c2 h=>cE))) <|bE (bO fun v2 _ h w=>wk w (go ?_)) <|bO fun v3 _ h w=>cEw
 refine cM h (fun c3 h=>go ?_) fun c3 h=>cE
 refine cM h (fun c4 h=>go ?_) fun c4 h=>go ?_
 refine bD h fun x1 q1 h=>⟨(ix_some q1).1, _, map_get encPair (ix_some q1).2, rfl, _, bs_eq _ _, go ?_⟩
 refine cM h (fun c5 h=>cE) fun c5 h=>go ?_
 refine cM h (fun c6 h=>⟨(ix_some q1).1, _, map_get encPair (ix_some q1).2, rfl, go ?_⟩) fun c6 h=>cE
 exact cP h ref01_Less_walk fun y7 h=>cE
 refine cM h (fun c7 h=>go ?_) fun c7 h=>cE
 refine bD h fun x2 q2 h=>⟨(ix_some q2).1, _, map_get encPair (ix_some q2).2, rfl, go ?_⟩
 exact cP h ref01_Less_walk fun y8 h=>cE
 refine ⟨List.map encPair [({ Key := key, Val := val } : Pair)], rfl, rfl, rfl, go ?_⟩
 refine nD h fun p1 h=>⟨by simp only [List.length_map]; exact p1, List.map encPair (a3 ++ [({ Key := key, Val := val } : Pair)]), map_app encPair _ _ rfl rfl, go ?_⟩
 exact cC h rfl (fun c8 h=>cE) fun c8 h=>cE
 refine bD h fun x3 q3 h=>⟨(ix_some q3).1, _, map_get encPair (ix_some q3).2, rfl, List.map encPair [x3], rfl, rfl, rfl, go ?_⟩
 refine nD h fun p2 h=>⟨by simp only [List.length_map]; exact p2, List.map encPair (v2.2 ++ [x3]), map_app encPair _ _ rfl rfl, cE⟩
 refine cC h rfl (fun c9 h=>go ?_) fun c9 h=>cE
 refine ⟨List.map encPair [({ Key := key, Val := val } : Pair)], rfl, rfl, rfl, go ?_⟩
 refine nD h fun p3 h=>⟨by simp only [List.length_map]; exact p3, List.map encPair (y2.2 ++ [({ Key := key, Val := val } : Pair)]), map_app encPair _ _ rfl rfl, cE⟩
def ref05_Apply_l2 (w : (List Write)) (a1 : (List Pair)) (a2 : Int) : Option (((List Pair) × Int) ⊕ ((List Pair))) :=
 if (decide (a2 < (w.length : Int))) then
 ((ix w a2).bind fun x1 =>
 if x1.Del then
 (ref05_Drop a1 x1.Key).bind fun y1 =>
 some y1
 else
 (ref05_Put a1 x1.Key x1.Val).bind fun y2 =>
 some y2).bind fun (y3 : (List Pair)) =>
 some (.inl (y3, (IntKind.i64.wrap (a2 + 1))))
 else
 some (.inr a1)
def ref05_Apply (l : (List Pair)) (w : (List Write)) : Option ((List Pair)) :=
 need ((([] : List Pair).length + l.length) * 32 ≤ 140737488355328) <|
 (loop (fun (s1 : (List Pair) × Int) => ref05_Apply_l2 w s1.1 s1.2) ((([] : List Pair) ++ l), (0 : Int))).bind fun (y1 : (List Pair)) =>
 some y1
theorem ref05_Apply_walk {l w r} (h : ref05_Apply l w = some r) : pP 52 [sL encPair l, sL encWrite w] (sL encPair r) := by
 unfold ref05_Apply at h
 refine pW0 Tryz.func52 rfl fun g=>go ?_
 refine ⟨List.map encPair ([] : List Pair), rfl, rfl, map_len (f := encPair) (n := 2) (fun _ => rfl) _, go ?_⟩
 refine nD h fun p1 h=>⟨by simp only [List.length_map]; exact p1, List.map encPair (([] : List Pair) ++ l), map_app encPair _ _ rfl rfl, go ?_⟩
 refine lQ h (fun s1=>⟨41, 0, ofRegs [(1, sL encWrite w), (5, sL encPair s1.1), (6, vI s1.2)], []⟩) (aO (.exit 0) (fun y1=>⟨41, 0, ofRegs [(5, sL encPair y1)], []⟩)) (Weak.trans (weak_freeze 0 rfl) (wF .rest (.s (.f (.all rfl))))) ?_ <|bO fun y1 _ h w=>wk w eF
 rintro y1 ⟨a1,a2⟩ v1 h r
 replace h : ref05_Apply_l2 w a1 a2 = some v1 := h
 unfold ref05_Apply_l2 at h
 dsimp only
 refine go ?_
 refine ⟨_, (len_map _ _).symm, go ?_⟩
 refine cC h rfl (fun c1 h=>gN 1 ?_) fun c1 h=>xE
 refine k1 h (fun y2=>⟨41, 0, ofRegs [(1, sL encWrite w), (5, sL encPair y2), (6, vI a2)], []⟩) (fun y2 h=>go ?_) fun y2 h=>cN
 refine bD h fun x1 q1 h=>⟨(ix_some q1).1, _, map_get encWrite (ix_some q1).2, rfl, go ?_⟩
 refine cC h rfl (fun c2 h=>go ?_) fun c2 h=>go ?_
 refine ⟨(ix_some q1).1, _, map_get encWrite (ix_some q1).2, rfl, go ?_⟩
 exact cP h ref05_Drop_walk fun y3 h=>cE
 refine Draw.one 13 (.take 0 (.take 1 (.take 2 (.take 3 (.take 4 (.take 5 (.take 6 (.take 7 (.take 8 (.take 9 (.take 10 (.alt 11 (.take 12 (.fin)) (.nil))))))))))))) [] (by kernel_rfl) ⟨(ix_some q1).1, _, map_get encWrite (ix_some q1).2, rfl, (ix_some q1).1, _, map_get encWrite (ix_some q1).2, rfl, go ?_, ⟨⟩⟩
 exact cP h ref05_Put_walk fun y4 h=>cE
def ref07_Do (s : State) (b : Batch) : Option (State × Int) :=
 (ref07_May b).bind fun y1 =>
 if (!y1) then some (s, 1) else
 (ref07_Decided s b.Token).bind fun y2 =>
 if y2.2 then some (s, 8) else
 (ref05_Apply s.Data b.Writes).bind fun y3 =>
 (ref05_Put s.Toks b.Token (if (decide (b.Kind = 2)) then [103] else [99])).bind fun y4 =>
 some (({ Data := y3, Toks := y4 } : State), 0)
theorem ref07_Do_walk {s b r} (h : ref07_Do s b = some r) : pP 18 [.agg (encState s), .agg (encBatch b)] (.tup [.agg (encState r.1), vI r.2]) := by
 unfold ref07_Do at h
 refine pW0 Tryz.func18 rfl fun g=>go ?_
 refine cP h ref07_May_walk fun y1 h=>go ?_
 refine cC h rfl (fun c1 h=>eF) fun c1 h=>go ?_
 refine cP h ref07_Decided_walk fun y2 h=>go ?_
 refine cC h rfl (fun c2 h=>eF) fun c2 h=>gN 3 ?_
 refine k0 ⟨39, 0, ofRegs [(2, .ptr 0 0), (3, .ptr 1 0), (4, .ptr 2 0), (9, vS (if (decide (b.Kind = 2)) then [103] else [99]))], [.var 36 (encState s), .var 25 (encBatch b), .var 36 [vN, vN]]⟩ (go ?_) (go ?_)
 exact cD (decide (b.Kind = 2)) rfl (fun i1=>cI) fun i1=>cI
 refine Draw.one 12 (.take 0 (.take 1 (.take 2 (.take 3 (.take 5 (.take 6 (.take 7 (.take 8 (.take 9 (.alt 4 (.alt 10 (.take 11 (.fin)) (.nil)) (.nil))))))))))) [] (by kernel_rfl) ⟨go ?_, ⟨⟩⟩
 refine cP h ref05_Apply_walk fun y3 h=>⟨go ?_, ⟨⟩⟩
 exact cP h ref05_Put_walk fun y4 h=>eF
def law08_KvCommits (x : Store) (b : Batch) : Option (Bool) :=
 law08_shown.bind fun y1 =>
 (kv_Commit x b).bind fun y2 =>
 if (!(decide (y2.2 = 0))) then
 if y1 then
 (ref07_Same x.S y2.1.S).bind fun y4 =>
 some y4
 else
 some false
 else
 (ref07_Do x.S b).bind fun y5 =>
 if y1 then
 if (decide (y5.2 = 0)) then
 (ref07_Same y5.1 y2.1.S).bind fun y6 =>
 some y6
 else
 some false
 else
 some false
theorem law08_KvCommits_walk {x b r} (h : law08_KvCommits x b = some r) : pP 4 [.agg (encStore x), .agg (encBatch b)] (vB r) := by
 unfold law08_KvCommits at h
 refine pW0 Tryz.func4 rfl fun g=>go ?_
 refine cP h law08_shown_walk fun y1 h=>go ?_
 refine cP h kv_Commit_walk fun y2 h=>go ?_
 refine cC h rfl (fun c1 h=>go ?_) fun c1 h=>go ?_
 refine cM h (fun c2 h=>go ?_) fun c2 h=>eF
 exact cP h ref07_Same_walk fun y4 h=>eF
 refine cP h ref07_Do_walk fun y5 h=>go ?_
 refine cM h (fun c3 h=>go ?_) fun c3 h=>eF
 refine cM h (fun c4 h=>go ?_) fun c4 h=>eF
 exact cP h ref07_Same_walk fun y6 h=>eF
def ref03_at_l2 (d : Disk) (name : Str) (a1 : Int) : Option ((Int) ⊕ ((Int) ⊕ (Unit))) :=
 if (decide (a1 < (d.Files.length : Int))) then
 (ix d.Files a1).bind fun x1 =>
 if (decide (x1.Name = name)) then some (.inr (.inl a1)) else
 some (.inl (IntKind.i64.wrap (a1 + 1)))
 else
 some (.inr (.inr ()))
def ref03_at (d : Disk) (name : Str) : Option (Int) :=
 (loop (fun (s1 : Int) => ref03_at_l2 d name s1) (0 : Int)).bind fun (y1 : (Int) ⊕ (Unit)) =>
 match y1 with
 | (.inl v1) =>
  some v1
 | (.inr v2) =>
 some ((-1) : Int)
theorem ref03_at_walk {d name r} (h : ref03_at d name = some r) : pP 72 [.agg (encDisk d), vS name] (vI r) := by
 unfold ref03_at at h
 refine pW0 Tryz.func72 rfl fun g=>go ?_
 refine lQ h (fun s1=>⟨22, 0, ofRegs [(1, vS name), (2, .ptr 0 0), (5, vI s1)], [.var 31 (encDisk d)]⟩) (Sum.elim (aO .ret (fun v1=>⟨22, 0, ofRegs [(4, vI v1)], []⟩)) (aO (.exit 0) (fun _=>⟨22, 0, ofRegs [], []⟩))) wA ?_ <|bE (bO fun v1 _ h w=>eFw) <|bO fun v2 _ h w=>wk w eF
 rintro y1 a1 v3 h r
 replace h : ref03_at_l2 d name a1 = some v3 := h
 unfold ref03_at_l2 at h
 refine go ?_
 refine ⟨_, (len_map _ _).symm, go ?_⟩
 refine cC h rfl (fun c1 h=>go ?_) fun c1 h=>xE
 refine bD h fun x1 q1 h=>⟨(ix_some q1).1, _, map_get encFile (ix_some q1).2, rfl, _, bs_eq _ _, go ?_⟩
 exact cC h rfl (fun c2 h=>xE) fun c2 h=>cN
def ref03_Find (d : Disk) (name : Str) : Option (File × Bool) :=
 (ref03_at d name).bind fun y1 =>
 if (decide (y1 < 0)) then some (({ Name := [], Safe := [], Wait := [] } : File), false) else
 (ix d.Files y1).bind fun x1 =>
 some (x1, true)
theorem ref03_Find_walk {d name r} (h : ref03_Find d name = some r) : pP 27 [.agg (encDisk d), vS name] (.tup [.agg (encFile r.1), vB r.2]) := by
 unfold ref03_Find at h
 refine pW0 Tryz.func27 rfl fun g=>go ?_
 refine cP h ref03_at_walk fun y1 h=>go ?_
 refine cC h rfl (fun c1 h=>eF) fun c1 h=>go ?_
 refine bD h fun x1 q1 h=>⟨(ix_some q1).1, _, map_get encFile (ix_some q1).2, rfl, eF⟩
def ref03_Read (d : Disk) (name : Str) : Option (Str × Int) :=
 (ref03_Find d name).bind fun y1 =>
 if (!y1.2) then some ([], 7) else
 need (y1.1.Safe.length + y1.1.Wait.length ≤ 9223372036854775807) <|
 some ((y1.1.Safe ++ y1.1.Wait), 0)
theorem ref03_Read_walk {d name r} (h : ref03_Read d name = some r) : pP 54 [.agg (encDisk d), vS name] (.tup [vS r.1, vI r.2]) := by
 unfold ref03_Read at h
 refine pW0 Tryz.func54 rfl fun g=>go ?_
 refine cP h ref03_Find_walk fun y1 h=>go ?_
 refine cC h rfl (fun c1 h=>eF) fun c1 h=>go ?_
 refine nD h fun p1 h=>⟨p1, _, bs_append _ _, eF⟩
def ref01_TakeNum_l2 (s : Str) (a1 : Int) : Option ((Int) ⊕ (Int)) :=
 (if (decide (a1 < (s.length : Int))) then
 (ix s a1).bind fun x1 =>
 if (decide ((x1.toNat : Int) ≥ 48)) then some (decide ((x1.toNat : Int) ≤ 57)) else
 some false
 else
 some false).bind fun (y1 : Bool) =>
 if y1 then some (.inl (IntKind.i64.wrap (a1 + 1))) else
 some (.inr a1)
def ref01_TakeNum_l4 (s : Str) (y1 a1 a2 : Int) : Option ((Int × Int) ⊕ ((Unit) ⊕ (Int))) :=
 if (decide (a2 < y1)) then
 (ix s a2).bind fun x1 =>
 if ((decide (a1 > 1844674407370955161)) || ((decide (a1 = 1844674407370955161)) && (decide ((IntKind.u64.wrap (IntKind.u8.wrap ((x1.toNat : Int) - 48))) > 5)))) then some (.inr (.inl ())) else
 some (.inl ((IntKind.u64.wrap ((IntKind.u64.wrap (10 * a1)) + (IntKind.u64.wrap (IntKind.u8.wrap ((x1.toNat : Int) - 48))))), (IntKind.i64.wrap (a2 + 1))))
 else
 some (.inr (.inr a1))
def ref01_TakeNum (s : Str) : Option (Int × Str × Int) :=
 (loop (fun (s1 : Int) => ref01_TakeNum_l2 s s1) (0 : Int)).bind fun (y1 : Int) =>
 (if (decide (y1 > 20)) then some true else
 if (decide (y1 > 1)) then
 (ix s 0).bind fun x1 =>
 some (decide ((x1.toNat : Int) = 48))
 else
 some false).bind fun (y2 : Bool) =>
 if y2 then some (0, [], 3) else
 (loop (fun (s2 : Int × Int) => ref01_TakeNum_l4 s y1 s2.1 s2.2) ((0 : Int), (0 : Int))).bind fun (y3 : (Unit) ⊕ (Int)) =>
 match y3 with
 | (.inl v1) =>
  some (0, [], 3)
 | (.inr v2) =>
 if (decide (y1 = (s.length : Int))) then some (0, [], 2) else
 ((ix s y1).bind fun x2 =>
 if (!(decide ((x2.toNat : Int) = 59))) then some true else
 some (decide (y1 = 0))).bind fun (y4 : Bool) =>
 if y4 then some (0, [], 3) else
 need ((0 : Int) ≤ (IntKind.i64.wrap (y1 + 1)) ∧ (IntKind.i64.wrap (y1 + 1)) ≤ (s.length : Int) ∧ (s.length : Int) ≤ (s.length : Int)) <|
 some (v2, (cut s (IntKind.i64.wrap (y1 + 1)) (s.length : Int)), 0)
theorem ref01_TakeNum_walk {s r} (h : ref01_TakeNum s = some r) : pP 62 [vS s] (.tup [vU r.1, vS r.2.1, vI r.2.2]) := by
 unfold ref01_TakeNum at h
 refine pW0 Tryz.func62 rfl fun g=>go ?_
 refine lQ h (fun s1=>⟨79, 0, ofRegs [(0, vS s), (5, vI s1)], []⟩) (aO (.exit 0) (fun y1=>⟨79, 0, ofRegs [(0, vS s), (5, vI y1)], []⟩)) wA ?_ <|bO fun y1 _ h w=>wk w (gN 1 ?_)
 rintro y1 a1 v1 h r
 replace h : ref01_TakeNum_l2 s a1 = some v1 := h
 unfold ref01_TakeNum_l2 at h
 refine gN 1 ?_
 refine k1 h (fun y2=>⟨79, 0, ofRegs [(0, vS s), (5, vI a1), (24, vB y2)], []⟩) (fun y2 h=>go ?_) fun y2 h=>?_
 refine ⟨(s.length : Int), rfl, go ?_⟩
 refine cM h (fun c1 h=>go ?_) fun c1 h=>cE
 refine bD h fun x1 q1 h=>⟨bs_bound q1, _, bs_at q1, go ?_⟩
 exact cM h (fun c2 h=>⟨bs_bound q1, _, bs_at q1, cE⟩) fun c2 h=>cE
 exact cC h rfl (fun c3 h=>cN) fun c3 h=>xE
 refine k1 h (fun y3=>⟨79, 0, ofRegs [(0, vS s), (5, vI y1), (37, vB y3)], []⟩) (fun y3 h=>go ?_) fun y3 h=>(cC h rfl (fun c4 h=>eF) fun c4 h=>go ?_)
 refine cM h (fun c5 h=>cE) fun c5 h=>go ?_
 refine cM h (fun c6 h=>go ?_) fun c6 h=>cE
 refine bD h fun x2 q2 h=>⟨bs_bound q2, _, bs_at q2, cE⟩
 refine lQ h (fun s2=>⟨79, 0, ofRegs [(0, vS s), (5, vI y1), (6, vU s2.1), (7, vI s2.2)], []⟩) (Sum.elim (aO .ret (fun _=>⟨79, 0, ofRegs [(2, vU 0), (3, vS []), (4, vI 3)], []⟩)) (aO (.exit 2) (fun v2=>⟨79, 0, ofRegs [(0, vS s), (5, vI y1), (6, vU v2)], []⟩))) wA ?_ <|bE (bO fun v3 _ h w=>eFw) <|bO fun v2 _ h w=>wk w (go ?_)
 rintro y4 ⟨a2,a3⟩ v4 h r
 replace h : ref01_TakeNum_l4 s y1 a2 a3 = some v4 := h
 unfold ref01_TakeNum_l4 at h
 dsimp only
 refine go ?_
 refine cC h rfl (fun c7 h=>go ?_) fun c7 h=>xE
 refine bD h fun x3 q3 h=>⟨bs_bound q3, _, bs_at q3, (IntKind.u64.wrap (IntKind.u8.wrap ((x3.toNat : Int) - 48))), rfl, gN 1 ?_⟩
 refine k0 ⟨79, 0, ofRegs [(0, vS s), (5, vI y1), (6, vU a2), (7, vI a3), (8, vU (IntKind.u64.wrap (IntKind.u8.wrap ((x3.toNat : Int) - 48)))), (57, vB ((decide (a2 > 1844674407370955161)) || ((decide (a2 = 1844674407370955161)) && (decide ((IntKind.u64.wrap (IntKind.u8.wrap ((x3.toNat : Int) - 48))) > 5)))))], []⟩ (go ?_) ?_
 refine cK (decide (a2 > 1844674407370955161)) (fun i1=>cI) fun i1=>go ?_
 exact cK (decide (a2 = 1844674407370955161)) (fun i2=>cI) fun i2=>cI
 exact cC h rfl (fun c8 h=>xE) fun c8 h=>cN
 refine ⟨(s.length : Int), rfl, go ?_⟩
 refine cC h rfl (fun c9 h=>eF) fun c9 h=>gN 2 ?_
 refine k1 h (fun y5=>⟨79, 0, ofRegs [(0, vS s), (5, vI y1), (6, vU v2), (73, vB y5)], []⟩) (fun y5 h=>go ?_) fun y5 h=>(cC h rfl (fun c10 h=>eF) fun c10 h=>go ?_)
 refine bD h fun x4 q4 h=>⟨bs_bound q4, _, bs_at q4, go ?_⟩
 exact cM h (fun c11 h=>cE) fun c11 h=>cE
 refine Draw.one 8 (.take 0 (.take 1 (.take 2 (.take 3 (.take 4 (.take 5 (.take 6 (.take 7 (.fin))))))))) [] (by kernel_rfl) (go ?_)
 refine nD h fun p1 h=>⟨p1, bs (cut s (IntKind.i64.wrap (y1 + 1)) (s.length : Int)), bs_cut _ _ _, eF⟩
def ref01_TakeText (s : Str) (most : Int) : Option (Str × Str × Int) :=
 (ref01_TakeNum s).bind fun y1 =>
 if (!(decide (y1.2.2 = 0))) then some ([], [], y1.2.2) else
 if ((decide (most < 0)) || (decide (y1.1 > (IntKind.u64.wrap most)))) then some ([], [], 4) else
 if (decide (y1.1 > (IntKind.u64.wrap (y1.2.1.length : Int)))) then some ([], [], 2) else
 need ((0 : Int) ≤ (0 : Int) ∧ 0 ≤ y1.1 ∧ y1.1 ≤ (y1.2.1.length : Int)) <|
 need ((0 : Int) ≤ y1.1 ∧ y1.1 ≤ (y1.2.1.length : Int) ∧ (y1.2.1.length : Int) ≤ (y1.2.1.length : Int)) <|
 some ((cut y1.2.1 0 y1.1), (cut y1.2.1 y1.1 (y1.2.1.length : Int)), 0)
theorem ref01_TakeText_walk {s most r} (h : ref01_TakeText s most = some r) : pP 113 [vS s, vI most] (.tup [vS r.1, vS r.2.1, vI r.2.2]) := by
 unfold ref01_TakeText at h
 refine pW0 Tryz.func113 rfl fun g=>go ?_
 refine cP h ref01_TakeNum_walk fun y1 h=>go ?_
 refine cC h rfl (fun c1 h=>eF) fun c1 h=>gN 2 ?_
 refine k0 ⟨38, 0, ofRegs [(7, vU y1.1), (8, vS y1.2.1), (26, vB ((decide (most < 0)) || (decide (y1.1 > (IntKind.u64.wrap most)))))], []⟩ (go ?_) ((cC h rfl (fun c2 h=>eF) fun c2 h=>go ?_))
 exact cK (decide (most < 0)) (fun i1=>cI) fun i1=>⟨(IntKind.u64.wrap most), rfl, cI⟩
 refine ⟨(y1.2.1.length : Int), rfl, (IntKind.u64.wrap (y1.2.1.length : Int)), rfl, go ?_⟩
 refine cC h rfl (fun c3 h=>eF) fun c3 h=>go ?_
 refine Draw.one 9 (.take 0 (.take 1 (.take 2 (.take 3 (.take 4 (.take 5 (.take 6 (.take 7 (.take 8 (.fin)))))))))) [] (by kernel_rfl) (go ?_)
 refine nD h fun p1 h=>⟨p1, bs (cut y1.2.1 0 y1.1), bs_cut _ _ _, go ?_⟩
 refine nD h fun p2 h=>⟨p2, bs (cut y1.2.1 y1.1 (y1.2.1.length : Int)), bs_cut _ _ _, eF⟩
def ref02_Of_l2 (s : Str) (a1 a2 a3 : Int) : Option ((Int × Int × Int) ⊕ (Int × Int)) :=
 if (decide (a3 < (s.length : Int))) then
 (ix s a3).bind fun x1 =>
 some (.inl ((Int.tmod (IntKind.i64.wrap (a1 + (IntKind.i64.wrap (x1.toNat : Int)))) 65521), (Int.tmod (IntKind.i64.wrap (a2 + (Int.tmod (IntKind.i64.wrap (a1 + (IntKind.i64.wrap (x1.toNat : Int)))) 65521))) 65521), (IntKind.i64.wrap (a3 + 1))))
 else
 some (.inr (a1, a2))
def ref02_Of (s : Str) : Option (Int) :=
 (loop (fun (s1 : Int × Int × Int) => ref02_Of_l2 s s1.1 s1.2.1 s1.2.2) ((1 : Int), (0 : Int), (0 : Int))).bind fun (y1 : Int × Int) =>
 some (IntKind.u32.wrap (IntKind.i64.wrap ((IntKind.i64.wrap (65536 * y1.2)) + y1.1)))
theorem ref02_Of_walk {s r} (h : ref02_Of s = some r) : pP 117 [vS s] (.v (.int .u32 r)) := by
 unfold ref02_Of at h
 refine pW0 Tryz.func117 rfl fun g=>go ?_
 refine lQ h (fun s1=>⟨28, 0, ofRegs [(0, vS s), (3, vI s1.1), (4, vI s1.2.1), (5, vI s1.2.2)], []⟩) (aO (.exit 0) (fun y1=>⟨28, 0, ofRegs [(3, vI y1.1), (4, vI y1.2)], []⟩)) wA ?_ <|bO fun y1 _ h w=>wk w (go ?_)
 rintro y1 ⟨a1,a2,a3⟩ v1 h r
 replace h : ref02_Of_l2 s a1 a2 a3 = some v1 := h
 unfold ref02_Of_l2 at h
 dsimp only
 refine go ?_
 refine ⟨(s.length : Int), rfl, go ?_⟩
 refine cC h rfl (fun c1 h=>go ?_) fun c1 h=>xE
 refine bD h fun x1 q1 h=>⟨bs_bound q1, _, bs_at q1, (IntKind.i64.wrap (x1.toNat : Int)), rfl, by decide, go ?_⟩
 refine ⟨by decide, cN⟩
 refine ⟨(IntKind.u32.wrap (IntKind.i64.wrap ((IntKind.i64.wrap (65536 * y1.2)) + y1.1))), rfl, eF⟩
def ref02_Open (f : Str) (most : Int) : Option (Str × Str × Int) :=
 (ref01_TakeText f most).bind fun y1 =>
 if (!(decide (y1.2.2 = 0))) then some ([], [], y1.2.2) else
 (ref01_TakeNum y1.2.1).bind fun y2 =>
 if (!(decide (y2.2.2 = 0))) then some ([], [], y2.2.2) else
 (ref02_Of y1.1).bind fun y3 =>
 if (!(decide (y2.1 = (IntKind.u64.wrap y3)))) then some ([], [], 10) else
 some (y1.1, y2.2.1, 0)
theorem ref02_Open_walk {f most r} (h : ref02_Open f most = some r) : pP 61 [vS f, vI most] (.tup [vS r.1, vS r.2.1, vI r.2.2]) := by
 unfold ref02_Open at h
 refine pW0 Tryz.func61 rfl fun g=>go ?_
 refine cP h ref01_TakeText_walk fun y1 h=>go ?_
 refine cC h rfl (fun c1 h=>eF) fun c1 h=>go ?_
 refine cP h ref01_TakeNum_walk fun y2 h=>go ?_
 refine cC h rfl (fun c2 h=>eF) fun c2 h=>go ?_
 refine cP h ref02_Of_walk fun y3 h=>⟨(IntKind.u64.wrap y3), rfl, go ?_⟩
 exact cC h rfl (fun c3 h=>eF) fun c3 h=>eF
def ref08_TakeManifest (s : Str) : Option (Int × Int × Int) :=
 (ref02_Open s 65536).bind fun y1 =>
 if ((!(decide (y1.2.2 = 0))) || (decide ((y1.2.1.length : Int) > 0))) then some (0, 0, 3) else
 (ref01_TakeNum y1.1).bind fun y2 =>
 if ((!(decide (y2.2.2 = 0))) || ((decide (y2.1 < 1)) || (decide (y2.1 > 1000000)))) then some (0, 0, 3) else
 (ref01_TakeNum y2.2.1).bind fun y3 =>
 if ((!(decide (y3.2.2 = 0))) || ((decide (y3.1 > 1000000)) || (decide ((y3.2.1.length : Int) > 0)))) then some (0, 0, 3) else
 some ((IntKind.i64.wrap y2.1), (IntKind.i64.wrap y3.1), 0)
theorem ref08_TakeManifest_walk {s r} (h : ref08_TakeManifest s = some r) : pP 21 [vS s] (.tup [vI r.1, vI r.2.1, vI r.2.2]) := by
 unfold ref08_TakeManifest at h
 refine pW0 Tryz.func21 rfl fun g=>go ?_
 refine cP h ref02_Open_walk fun y1 h=>gN 1 ?_
 refine k0 ⟨64, 0, ofRegs [(5, vS y1.1), (26, vB ((!(decide (y1.2.2 = 0))) || (decide ((y1.2.1.length : Int) > 0))))], []⟩ (go ?_) ((cC h rfl (fun c1 h=>eF) fun c1 h=>go ?_))
 exact cK (!(decide (y1.2.2 = 0))) (fun i1=>cI) fun i1=>⟨(y1.2.1.length : Int), rfl, cI⟩
 refine cP h ref01_TakeNum_walk fun y2 h=>gN 1 ?_
 refine k0 ⟨64, 0, ofRegs [(8, vU y2.1), (9, vS y2.2.1), (42, vB ((!(decide (y2.2.2 = 0))) || ((decide (y2.1 < 1)) || (decide (y2.1 > 1000000)))))], []⟩ (go ?_) ((cC h rfl (fun c2 h=>eF) fun c2 h=>go ?_))
 refine cK (!(decide (y2.2.2 = 0))) (fun i1=>cI) fun i1=>go ?_
 exact cK (decide (y2.1 < 1)) (fun i2=>cI) fun i2=>cI
 refine cP h ref01_TakeNum_walk fun y3 h=>gN 1 ?_
 refine k0 ⟨64, 0, ofRegs [(8, vU y2.1), (11, vU y3.1), (59, vB ((!(decide (y3.2.2 = 0))) || ((decide (y3.1 > 1000000)) || (decide ((y3.2.1.length : Int) > 0)))))], []⟩ (go ?_) ((cC h rfl (fun c3 h=>eF) fun c3 h=>go ?_))
 refine cK (!(decide (y3.2.2 = 0))) (fun i1=>cI) fun i1=>go ?_
 exact cK (decide (y3.1 > 1000000)) (fun i2=>cI) fun i2=>⟨(y3.2.1.length : Int), rfl, cI⟩
 refine ⟨(IntKind.i64.wrap y2.1), rfl, (IntKind.i64.wrap y3.1), rfl, eF⟩
def ref01_Num_l2 (a1 : Int) (a2 : Str) : Option ((Int × Str) ⊕ (Str)) :=
 if (decide (a1 > 0)) then
 need ((List.map u8 [(IntKind.u8.wrap (48 + (IntKind.u8.wrap (Int.tmod a1 10))))]).length + a2.length ≤ 9223372036854775807) <|
 some (.inl ((IntKind.u64.wrap (Int.tdiv a1 10)), ((List.map u8 [(IntKind.u8.wrap (48 + (IntKind.u8.wrap (Int.tmod a1 10))))]) ++ a2)))
 else
 some (.inr a2)
def ref01_Num (v : Int) : Option (Str) :=
 need ((List.map u8 [(IntKind.u8.wrap (48 + (IntKind.u8.wrap (Int.tmod v 10))))]).length + ([59] : Str).length ≤ 9223372036854775807) <|
 (loop (fun (s1 : Int × Str) => ref01_Num_l2 s1.1 s1.2) ((IntKind.u64.wrap (Int.tdiv v 10)), ((List.map u8 [(IntKind.u8.wrap (48 + (IntKind.u8.wrap (Int.tmod v 10))))]) ++ [59]))).bind fun (y1 : Str) =>
 some y1
theorem ref01_Num_walk {v r} (h : ref01_Num v = some r) : pP 64 [vU v] (vS r) := by
 unfold ref01_Num at h
 refine pW0 Tryz.func64 rfl fun g=>go ?_
 refine ⟨by decide, (IntKind.u8.wrap (Int.tmod v 10)), rfl, List.map (encI .u8) [(IntKind.u8.wrap (48 + (IntKind.u8.wrap (Int.tmod v 10))))], rfl, rfl, [(IntKind.u8.wrap (48 + (IntKind.u8.wrap (Int.tmod v 10))))], rfl, _, ofInts_eq _, go ?_⟩
 refine nD h fun p1 h=>⟨p1, _, bs_append _ _, go ?_⟩
 refine ⟨by decide, go ?_⟩
 refine lQ h (fun s1=>⟨26, 0, ofRegs [(0, vU s1.1), (3, vS s1.2)], []⟩) (aO (.exit 0) (fun y1=>⟨26, 0, ofRegs [(3, vS y1)], []⟩)) wA ?_ <|bO fun y1 _ h w=>wk w eF
 rintro y1 ⟨a1,a2⟩ v1 h r
 replace h : ref01_Num_l2 a1 a2 = some v1 := h
 unfold ref01_Num_l2 at h
 dsimp only
 refine go ?_
 refine cC h rfl (fun c1 h=>go ?_) fun c1 h=>xE
 refine ⟨by decide, (IntKind.u8.wrap (Int.tmod a1 10)), rfl, List.map (encI .u8) [(IntKind.u8.wrap (48 + (IntKind.u8.wrap (Int.tmod a1 10))))], rfl, rfl, [(IntKind.u8.wrap (48 + (IntKind.u8.wrap (Int.tmod a1 10))))], rfl, _, ofInts_eq _, go ?_⟩
 refine nD h fun p2 h=>⟨p2, _, bs_append _ _, go ?_⟩
 refine ⟨by decide, cN⟩
def ref08_RunName (n : Int) : Option (Str) :=
 if ((decide (n < 1)) || (decide (n > 1000000))) then some ([] : Str) else
 (ref01_Num (IntKind.u64.wrap n)).bind fun y1 =>
 need ((0 : Int) ≤ (0 : Int) ∧ 0 ≤ (IntKind.i64.wrap ((y1.length : Int) - 1)) ∧ (IntKind.i64.wrap ((y1.length : Int) - 1)) ≤ (y1.length : Int)) <|
 need (([114] : Str).length + (cut y1 0 (IntKind.i64.wrap ((y1.length : Int) - 1))).length ≤ 9223372036854775807) <|
 some ([114] ++ (cut y1 0 (IntKind.i64.wrap ((y1.length : Int) - 1))))
theorem ref08_RunName_walk {n r} (h : ref08_RunName n = some r) : pP 23 [vI n] (vS r) := by
 unfold ref08_RunName at h
 refine pW0 Tryz.func23 rfl fun g=>gN 3 ?_
 refine k0 ⟨19, 0, ofRegs [(0, vI n), (9, vB ((decide (n < 1)) || (decide (n > 1000000))))], []⟩ (go ?_) ((cC h rfl (fun c1 h=>eF) fun c1 h=>go ?_))
 exact cK (decide (n < 1)) (fun i1=>cI) fun i1=>cI
 refine ⟨(IntKind.u64.wrap n), rfl, go ?_⟩
 refine cP h ref01_Num_walk fun y1 h=>go ?_
 refine ⟨(y1.length : Int), rfl, go ?_⟩
 refine nD h fun p1 h=>⟨p1, bs (cut y1 0 (IntKind.i64.wrap ((y1.length : Int) - 1))), bs_cut _ _ _, go ?_⟩
 refine nD h fun p2 h=>⟨p2, _, bs_append _ _, eF⟩
def ref05_Right_l2 (l : (List Pair)) (a1 : Int) : Option ((Int) ⊕ ((Unit) ⊕ (Unit))) :=
 if (decide (a1 < (l.length : Int))) then
 (ix l (IntKind.i64.wrap (a1 - 1))).bind fun x1 =>
 (ix l a1).bind fun x2 =>
 (ref01_Less x1.Key x2.Key).bind fun y1 =>
 if (!y1) then some (.inr (.inl ())) else
 some (.inl (IntKind.i64.wrap (a1 + 1)))
 else
 some (.inr (.inr ()))
def ref05_Right (l : (List Pair)) : Option (Bool) :=
 (loop (fun (s1 : Int) => ref05_Right_l2 l s1) (1 : Int)).bind fun (y1 : (Unit) ⊕ (Unit)) =>
 match y1 with
 | (.inl v1) =>
  some false
 | (.inr v2) =>
 some true
theorem ref05_Right_walk {l r} (h : ref05_Right l = some r) : pP 163 [sL encPair l] (vB r) := by
 unfold ref05_Right at h
 refine pW0 Tryz.func163 rfl fun g=>go ?_
 refine lQ h (fun s1=>⟨25, 0, ofRegs [(0, sL encPair l), (3, vI s1)], []⟩) (Sum.elim (aO .ret (fun _=>⟨25, 0, ofRegs [(2, vB false)], []⟩)) (aO (.exit 0) (fun _=>⟨25, 0, ofRegs [], []⟩))) wA ?_ <|bE (bO fun v1 _ h w=>eFw) <|bO fun v2 _ h w=>wk w eF
 rintro y1 a1 v3 h r
 replace h : ref05_Right_l2 l a1 = some v3 := h
 unfold ref05_Right_l2 at h
 refine go ?_
 refine ⟨_, (len_map _ _).symm, go ?_⟩
 refine cC h rfl (fun c1 h=>go ?_) fun c1 h=>xE
 refine Draw.one 13 (.take 0 (.take 1 (.take 2 (.take 3 (.take 4 (.take 5 (.take 6 (.take 7 (.take 8 (.take 9 (.take 10 (.alt 11 (.take 12 (.fin)) (.nil))))))))))))) [] (by kernel_rfl) (go ?_)
 refine bD h fun x1 q1 h=>⟨(ix_some q1).1, _, map_get encPair (ix_some q1).2, rfl, go ?_⟩
 refine bD h fun x2 q2 h=>⟨(ix_some q2).1, _, map_get encPair (ix_some q2).2, rfl, go ?_, ⟨⟩⟩
 refine cP h ref01_Less_walk fun y2 h=>go ?_
 exact cC h rfl (fun c2 h=>xE) fun c2 h=>cN
def ref06_may_l2 (l : (List Pair)) (a1 : Int) : Option ((Int) ⊕ ((Unit) ⊕ (Unit))) :=
 if (decide (a1 < (l.length : Int))) then
 ((ix l a1).bind fun x1 =>
 if (decide ((x1.Key.length : Int) > 65536)) then some true else
 some (decide ((x1.Val.length : Int) > 65536))).bind fun (y1 : Bool) =>
 if y1 then some (.inr (.inl ())) else
 some (.inl (IntKind.i64.wrap (a1 + 1)))
 else
 some (.inr (.inr ()))
def ref06_may (l : (List Pair)) : Option (Bool) :=
 (loop (fun (s1 : Int) => ref06_may_l2 l s1) (0 : Int)).bind fun (y1 : (Unit) ⊕ (Unit)) =>
 match y1 with
 | (.inl v1) =>
  some false
 | (.inr v2) =>
 (ref05_Right l).bind fun y2 =>
 some y2
theorem ref06_may_walk {l r} (h : ref06_may l = some r) : pP 126 [sL encPair l] (vB r) := by
 unfold ref06_may at h
 refine pW0 Tryz.func126 rfl fun g=>go ?_
 refine lQ h (fun s1=>⟨28, 0, ofRegs [(0, sL encPair l), (3, vI s1)], []⟩) (Sum.elim (aO .ret (fun _=>⟨28, 0, ofRegs [(2, vB false)], []⟩)) (aO (.exit 0) (fun _=>⟨28, 0, ofRegs [(0, sL encPair l)], []⟩))) wA ?_ <|bE (bO fun v1 _ h w=>eFw) <|bO fun v2 _ h w=>wk w (go ?_)
 rintro y1 a1 v3 h r
 replace h : ref06_may_l2 l a1 = some v3 := h
 unfold ref06_may_l2 at h
 refine go ?_
 refine ⟨_, (len_map _ _).symm, go ?_⟩
 refine cC h rfl (fun c1 h=>gN 3 ?_) fun c1 h=>xE
 refine k1 h (fun y2=>⟨28, 0, ofRegs [(0, sL encPair l), (3, vI a1), (25, vB y2)], []⟩) (fun y2 h=>go ?_) fun y2 h=>?_
 refine bD h fun x1 q1 h=>⟨(ix_some q1).1, _, map_get encPair (ix_some q1).2, rfl, (x1.Key.length : Int), rfl, go ?_⟩
 exact cM h (fun c2 h=>cE) fun c2 h=>⟨(ix_some q1).1, _, map_get encPair (ix_some q1).2, rfl, (x1.Val.length : Int), rfl, cE⟩
 exact cC h rfl (fun c3 h=>xE) fun c3 h=>cN
 exact cP h ref05_Right_walk fun y3 h=>eF
def ref06_Take_l2 (y1 : Int × Str × Int) (a1 : Str) (a2 : Int) (a3 : (List Pair)) : Option ((Str × Int × (List Pair)) ⊕ ((Unit) ⊕ (Str × (List Pair)))) :=
 if (decide (a2 < y1.1)) then
 (ref01_TakeText a1 65536).bind fun y2 =>
 if (!(decide (y2.2.2 = 0))) then some (.inr (.inl ())) else
 (ref01_TakeText y2.2.1 65536).bind fun y3 =>
 if (!(decide (y3.2.2 = 0))) then some (.inr (.inl ())) else
 need ((a3.length + 1) * 32 ≤ 140737488355328) <|
 some (.inl (y3.2.1, (IntKind.u64.wrap (a2 + 1)), (a3 ++ [({ Key := y2.1, Val := y3.1 } : Pair)])))
 else
 some (.inr (.inr (a1, a3)))
def ref06_Take (s : Str) : Option ((List Pair) × Int) :=
 (ref02_Open s 1073741824).bind fun y1 =>
 if ((!(decide (y1.2.2 = 0))) || (decide ((y1.2.1.length : Int) > 0))) then some ([], 3) else
 (ref01_TakeNum y1.1).bind fun y2 =>
 if (!(decide (y2.2.2 = 0))) then some ([], 3) else
 (loop (fun (s1 : Str × Int × (List Pair)) => ref06_Take_l2 y2 s1.1 s1.2.1 s1.2.2) (y2.2.1, (0 : Int), ([] : (List Pair)))).bind fun (y3 : (Unit) ⊕ (Str × (List Pair))) =>
 match y3 with
 | (.inl v1) =>
  some ([], 3)
 | (.inr v2) =>
 (ref06_may v2.2).bind fun y4 =>
 if ((decide ((v2.1.length : Int) > 0)) || (!y4)) then some ([], 3) else
 some (v2.2, 0)
theorem ref06_Take_walk {s r} (h : ref06_Take s = some r) : pP 109 [vS s] (.tup [sL encPair r.1, vI r.2]) := by
 unfold ref06_Take at h
 refine pW0 Tryz.func109 rfl fun g=>go ?_
 refine cP h ref02_Open_walk fun y1 h=>gN 1 ?_
 refine k0 ⟨78, 0, ofRegs [(4, vS y1.1), (31, vB ((!(decide (y1.2.2 = 0))) || (decide ((y1.2.1.length : Int) > 0))))], []⟩ (go ?_) ((cC h rfl (fun c1 h=>eF) fun c1 h=>go ?_))
 exact cK (!(decide (y1.2.2 = 0))) (fun i1=>cI) fun i1=>⟨(y1.2.1.length : Int), rfl, cI⟩
 refine cP h ref01_TakeNum_walk fun y2 h=>go ?_
 refine cC h rfl (fun c2 h=>eF) fun c2 h=>go ?_
 refine lQ h (fun s1=>⟨78, 0, ofRegs [(7, vU y2.1), (8, vS s1.1), (10, .row 0 ((List.map encPair s1.2.2).length)), (11, vU s1.2.1)], [.row 90 2 (List.map encPair s1.2.2)]⟩) (Sum.elim (aO .ret (fun _=>⟨78, 0, ofRegs [(2, vN), (3, vI 3)], []⟩)) (aO (.exit 0) (fun v1=>⟨78, 0, ofRegs [(8, vS v1.1), (10, .row 0 ((List.map encPair v1.2).length))], [.row 90 2 (List.map encPair v1.2)]⟩))) (Weak.trans (weak_nil 10 90 2 rfl) wI) ?_ <|bE (bO fun v2 _ h w=>eFw) <|bO fun v1 _ h w=>wk w (go ?_)
 rintro y3 ⟨a1,a2,a3⟩ v3 h r
 replace h : ref06_Take_l2 y2 a1 a2 a3 = some v3 := h
 unfold ref06_Take_l2 at h
 dsimp only
 refine go ?_
 refine cC h rfl (fun c3 h=>go ?_) fun c3 h=>xE
 refine cP h ref01_TakeText_walk fun y4 h=>go ?_
 refine cC h rfl (fun c4 h=>xE) fun c4 h=>go ?_
 refine cP h ref01_TakeText_walk fun y5 h=>go ?_
 refine cC h rfl (fun c5 h=>xE) fun c5 h=>go ?_
 refine ⟨List.map encPair [({ Key := y4.1, Val := y5.1 } : Pair)], rfl, rfl, rfl, go ?_⟩
 refine nD h fun p1 h=>⟨by simp only [List.length_map]; exact p1, List.map encPair (a3 ++ [({ Key := y4.1, Val := y5.1 } : Pair)]), map_app encPair _ _ rfl rfl, cN⟩
 refine ⟨rfl, go ?_⟩
 refine cP h ref06_may_walk fun y6 h=>gN 1 ?_
 refine k0 ⟨78, 0, ofRegs [(10, .row 0 ((List.map encPair v1.2).length)), (76, vB ((decide ((v1.1.length : Int) > 0)) || (!y6)))], [.row 90 2 (List.map encPair v1.2)]⟩ (go ?_) ?_
 refine ⟨(v1.1.length : Int), rfl, go ?_⟩
 exact cK (decide ((v1.1.length : Int) > 0)) (fun i1=>cI) fun i1=>cI
 exact cC h rfl (fun c6 h=>eF) fun c6 h=>eF
def ref06_Load (d : Disk) (name : Str) : Option ((List Pair) × Int) :=
 (ref03_Read d name).bind fun y1 =>
 if (!(decide (y1.2 = 0))) then some ([], y1.2) else
 (ref06_Take y1.1).bind fun y2 =>
 some (y2.1, y2.2)
theorem ref06_Load_walk {d name r} (h : ref06_Load d name = some r) : pP 55 [.agg (encDisk d), vS name] (.tup [sL encPair r.1, vI r.2]) := by
 unfold ref06_Load at h
 refine pW0 Tryz.func55 rfl fun g=>go ?_
 refine cP h ref03_Read_walk fun y1 h=>go ?_
 refine cC h rfl (fun c1 h=>eF) fun c1 h=>go ?_
 exact cP h ref06_Take_walk fun y2 h=>eF
def ref07_Back_l2 (l : (List Pair)) (a1 : Int) (a2 a3 : (List Pair)) : Option ((Int × (List Pair) × (List Pair)) ⊕ ((Unit) ⊕ ((List Pair) × (List Pair)))) :=
 if (decide (a1 < (l.length : Int))) then
 ((ix l a1).bind fun x1 =>
 if (decide ((x1.Key.length : Int) = 0)) then some (.inr ()) else
 ((ix x1.Key 0).bind fun x2 =>
 if (decide ((x2.toNat : Int) = 100)) then some (decide ((a3.length : Int) = 0)) else
 some false).bind fun (y1 : Bool) =>
 if y1 then
 need ((0 : Int) ≤ 1 ∧ 1 ≤ (x1.Key.length : Int) ∧ (x1.Key.length : Int) ≤ (x1.Key.length : Int)) <|
 need ((a2.length + 1) * 32 ≤ 140737488355328) <|
 some (.inl ((a2 ++ [({ Key := (cut x1.Key 1 (x1.Key.length : Int)), Val := x1.Val } : Pair)]), a3))
 else
 ((ix x1.Key 0).bind fun x3 =>
 if (!(decide ((x3.toNat : Int) = 116))) then some true else
 if (!decide (x1.Val = [99])) then some (!decide (x1.Val = [103])) else
 some false).bind fun (y2 : Bool) =>
 if y2 then some (.inr ()) else
 need ((0 : Int) ≤ 1 ∧ 1 ≤ (x1.Key.length : Int) ∧ (x1.Key.length : Int) ≤ (x1.Key.length : Int)) <|
 need ((a3.length + 1) * 32 ≤ 140737488355328) <|
 some (.inl (a2, (a3 ++ [({ Key := (cut x1.Key 1 (x1.Key.length : Int)), Val := x1.Val } : Pair)])))).bind fun (y3 : ((List Pair) × (List Pair)) ⊕ (Unit)) =>
 match y3 with
 | (.inl v1) =>
  some (.inl ((IntKind.i64.wrap (a1 + 1)), v1.1, v1.2))
 | (.inr v2) =>
 some (.inr (.inl ()))
 else
 some (.inr (.inr (a2, a3)))
def ref07_Back (l : (List Pair)) : Option (State × Int) :=
 (loop (fun (s1 : Int × (List Pair) × (List Pair)) => ref07_Back_l2 l s1.1 s1.2.1 s1.2.2) ((0 : Int), ([] : (List Pair)), ([] : (List Pair)))).bind fun (y1 : (Unit) ⊕ ((List Pair) × (List Pair))) =>
 match y1 with
 | (.inl v1) =>
  some (({ Data := [], Toks := [] } : State), 3)
 | (.inr v2) =>
 some (({ Data := v2.1, Toks := v2.2 } : State), 0)
theorem ref07_Back_walk {l r} (h : ref07_Back l = some r) : pP 56 [sL encPair l] (.tup [.agg (encState r.1), vI r.2]) := by
 unfold ref07_Back at h
 refine pW0 Tryz.func56 rfl fun g=>go ?_
 refine lQ h (fun s1=>⟨79, 0, ofRegs [(0, sL encPair l), (2, .ptr 0 0), (4, .ptr 1 0), (5, vI s1.1)], [.var 36 [.row 2 ((List.map encPair []).length), .row 3 ((List.map encPair []).length)], .var 36 [.row 4 ((List.map encPair s1.2.1).length), .row 5 ((List.map encPair s1.2.2).length)], .row 90 2 (List.map encPair []), .row 90 2 (List.map encPair []), .row 90 2 (List.map encPair s1.2.1), .row 90 2 (List.map encPair s1.2.2)]⟩) (Sum.elim (aO .ret (fun _=>⟨79, 0, ofRegs [(2, .ptr 0 0), (3, vI 3)], [.var 36 [vN, vN]]⟩)) (aO (.exit 0) (fun v1=>⟨79, 0, ofRegs [(2, .ptr 0 0), (4, .ptr 1 0)], [.var 36 [.row 2 ((List.map encPair []).length), .row 3 ((List.map encPair []).length)], .var 36 [.row 4 ((List.map encPair v1.1).length), .row 5 ((List.map encPair v1.2).length)], .row 90 2 (List.map encPair []), .row 90 2 (List.map encPair []), .row 90 2 (List.map encPair v1.1), .row 90 2 (List.map encPair v1.2)]⟩))) (Weak.trans (weak_nilcell 0 0 90 2 rfl rfl) (Weak.trans (weak_nilcell 0 1 90 2 rfl rfl) (Weak.trans (weak_nilcell 1 0 90 2 rfl rfl) (Weak.trans (weak_nilcell 1 1 90 2 rfl rfl) (wF (.cons (.var (.cons (.same (show (.row 2 0 : AV) = (.row 2 ((List.map encPair []).length) : AV) from congrArg (AV.row 2) (by simp))) (.cons (.same (show (.row 3 0 : AV) = (.row 3 ((List.map encPair []).length) : AV) from congrArg (AV.row 3) (by simp))) (.nil)))) (.cons (.var (.cons (.same (show (.row 4 0 : AV) = (.row 4 ((List.map encPair []).length) : AV) from congrArg (AV.row 4) (by simp))) (.cons (.same (show (.row 5 0 : AV) = (.row 5 ((List.map encPair []).length) : AV) from congrArg (AV.row 5) (by simp))) (.nil)))) .rest)) (.all rfl)))))) ?_ <|bE (bO fun v2 _ h w=>eFw) <|bO fun v1 _ h w=>wk w eF
 rintro y1 ⟨a1,a2,a3⟩ v3 h r
 replace h : ref07_Back_l2 l a1 a2 a3 = some v3 := h
 unfold ref07_Back_l2 at h
 dsimp only
 refine go ?_
 refine ⟨_, (len_map _ _).symm, go ?_⟩
 refine cC h rfl (fun c1 h=>gN 1 ?_) fun c1 h=>xE
 refine kS h (Sum.elim (aO .normal (fun v4=>⟨79, 0, ofRegs [(0, sL encPair l), (2, .ptr 0 0), (4, .ptr 1 0), (5, vI a1)], [.var 36 [.row 2 ((List.map encPair []).length), .row 3 ((List.map encPair []).length)], .var 36 [.row 4 ((List.map encPair v4.1).length), .row 5 ((List.map encPair v4.2).length)], .row 90 2 (List.map encPair []), .row 90 2 (List.map encPair []), .row 90 2 (List.map encPair v4.1), .row 90 2 (List.map encPair v4.2)]⟩)) (aO .ret (fun _=>⟨79, 0, ofRegs [(2, .ptr 0 0), (3, vI 3)], [.var 36 [vN, vN]]⟩))) (fun y2 h=>go ?_) <|bE (bO fun v4 _ h w=>wk w cN) <|bO fun v5 _ h w=>xEw
 refine bD h fun x1 q1 h=>⟨(ix_some q1).1, _, map_get encPair (ix_some q1).2, rfl, go ?_⟩
 refine ⟨(x1.Key.length : Int), rfl, go ?_⟩
 refine cC h rfl (fun c2 h=>cE) fun c2 h=>gN 2 ?_
 refine k1 h (fun y3=>⟨79, 0, ofRegs [(0, sL encPair l), (2, .ptr 0 0), (4, .ptr 1 0), (5, vI a1), (6, vS x1.Key), (31, vB y3)], [.var 36 [.row 2 ((List.map encPair []).length), .row 3 ((List.map encPair []).length)], .var 36 [.row 4 ((List.map encPair a2).length), .row 5 ((List.map encPair a3).length)], .row 90 2 (List.map encPair []), .row 90 2 (List.map encPair []), .row 90 2 (List.map encPair a2), .row 90 2 (List.map encPair a3)]⟩) (fun y3 h=>go ?_) fun y3 h=>(cC h rfl (fun c3 h=>go ?_) fun c3 h=>gN 2 ?_)
 refine bD h fun x2 q2 h=>⟨bs_bound q2, _, bs_at q2, go ?_⟩
 exact cM h (fun c4 h=>⟨rfl, (a3.length : Int), by simp, cE⟩) fun c4 h=>cE
 refine Draw.one 13 (.take 0 (.take 1 (.take 2 (.take 3 (.take 4 (.take 5 (.take 6 (.take 7 (.take 8 (.take 9 (.alt 10 (.alt 11 (.take 12 (.fin)) (.nil)) (.nil)))))))))))) [] (by kernel_rfl) (go ?_)
 refine nD h fun p1 h=>⟨p1, bs (cut x1.Key 1 (x1.Key.length : Int)), bs_cut _ _ _, (ix_some q1).1, _, map_get encPair (ix_some q1).2, rfl, ⟨List.map encPair [({ Key := (cut x1.Key 1 (x1.Key.length : Int)), Val := x1.Val } : Pair)], rfl, ⟨rfl, rfl, go ?_⟩, ⟨⟩⟩, ⟨⟩⟩
 refine nD h fun p2 h=>⟨by simp only [List.length_map]; exact p2, List.map encPair (a2 ++ [({ Key := (cut x1.Key 1 (x1.Key.length : Int)), Val := x1.Val } : Pair)]), map_app encPair _ _ rfl rfl, cE⟩
 refine k1 h (fun y4=>⟨79, 0, ofRegs [(0, sL encPair l), (2, .ptr 0 0), (4, .ptr 1 0), (5, vI a1), (6, vS x1.Key), (63, vB y4)], [.var 36 [.row 2 ((List.map encPair []).length), .row 3 ((List.map encPair []).length)], .var 36 [.row 4 ((List.map encPair a2).length), .row 5 ((List.map encPair a3).length)], .row 90 2 (List.map encPair []), .row 90 2 (List.map encPair []), .row 90 2 (List.map encPair a2), .row 90 2 (List.map encPair a3)]⟩) (fun y4 h=>go ?_) fun y4 h=>(cC h rfl (fun c5 h=>cE) fun c5 h=>go ?_)
 refine bD h fun x3 q3 h=>⟨bs_bound q3, _, bs_at q3, go ?_⟩
 refine cM h (fun c6 h=>cE) fun c6 h=>⟨(ix_some q1).1, _, map_get encPair (ix_some q1).2, rfl, _, bs_ne _ _, go ?_⟩
 exact cM h (fun c7 h=>⟨(ix_some q1).1, _, map_get encPair (ix_some q1).2, rfl, _, bs_ne _ _, cE⟩) fun c7 h=>cE
 refine Draw.one 13 (.take 0 (.take 1 (.take 2 (.take 3 (.take 4 (.take 5 (.take 6 (.take 7 (.take 8 (.take 9 (.alt 10 (.alt 11 (.take 12 (.fin)) (.nil)) (.nil)))))))))))) [] (by kernel_rfl) (go ?_)
 refine nD h fun p3 h=>⟨p3, bs (cut x1.Key 1 (x1.Key.length : Int)), bs_cut _ _ _, (ix_some q1).1, _, map_get encPair (ix_some q1).2, rfl, ⟨List.map encPair [({ Key := (cut x1.Key 1 (x1.Key.length : Int)), Val := x1.Val } : Pair)], rfl, ⟨rfl, rfl, go ?_⟩, ⟨⟩⟩, ⟨⟩⟩
 refine nD h fun p4 h=>⟨by simp only [List.length_map]; exact p4, List.map encPair (a3 ++ [({ Key := (cut x1.Key 1 (x1.Key.length : Int)), Val := x1.Val } : Pair)]), map_app encPair _ _ rfl rfl, cE⟩
def ref04_Name (seg : Int) : Option (Str) :=
 if ((decide (seg < 1)) || (decide (seg > 1000000))) then some ([] : Str) else
 (ref01_Num (IntKind.u64.wrap seg)).bind fun y1 =>
 need ((0 : Int) ≤ (0 : Int) ∧ 0 ≤ (IntKind.i64.wrap ((y1.length : Int) - 1)) ∧ (IntKind.i64.wrap ((y1.length : Int) - 1)) ≤ (y1.length : Int)) <|
 need (([119] : Str).length + (cut y1 0 (IntKind.i64.wrap ((y1.length : Int) - 1))).length ≤ 9223372036854775807) <|
 some ([119] ++ (cut y1 0 (IntKind.i64.wrap ((y1.length : Int) - 1))))
theorem ref04_Name_walk {seg r} (h : ref04_Name seg = some r) : pP 110 [vI seg] (vS r) := by
 unfold ref04_Name at h
 refine pW0 Tryz.func110 rfl fun g=>gN 3 ?_
 refine k0 ⟨19, 0, ofRegs [(0, vI seg), (9, vB ((decide (seg < 1)) || (decide (seg > 1000000))))], []⟩ (go ?_) ((cC h rfl (fun c1 h=>eF) fun c1 h=>go ?_))
 exact cK (decide (seg < 1)) (fun i1=>cI) fun i1=>cI
 refine ⟨(IntKind.u64.wrap seg), rfl, go ?_⟩
 refine cP h ref01_Num_walk fun y1 h=>go ?_
 refine ⟨(y1.length : Int), rfl, go ?_⟩
 refine nD h fun p1 h=>⟨p1, bs (cut y1 0 (IntKind.i64.wrap ((y1.length : Int) - 1))), bs_cut _ _ _, go ?_⟩
 refine nD h fun p2 h=>⟨p2, _, bs_append _ _, eF⟩
def ref04_Scan_l2 (s : Str) (a1 : Int) (a2 : (List Str)) : Option ((Int × (List Str)) ⊕ ((Int × (List Str)) ⊕ (Int × (List Str)))) :=
 if (decide (a1 < (s.length : Int))) then
 need ((0 : Int) ≤ a1 ∧ a1 ≤ (s.length : Int) ∧ (s.length : Int) ≤ (s.length : Int)) <|
 (ref02_Open (cut s a1 (s.length : Int)) 2048).bind fun y1 =>
 if (!(decide (y1.2.2 = 0))) then some (.inr (.inl (a1, a2))) else
 need ((a2.length + 1) * 16 ≤ 140737488355328) <|
 some (.inl ((IntKind.i64.wrap ((s.length : Int) - (y1.2.1.length : Int))), (a2 ++ [y1.1])))
 else
 some (.inr (.inr (a1, a2)))
def ref04_Scan (s : Str) : Option ((List Str) × Int) :=
 (loop (fun (s1 : Int × (List Str)) => ref04_Scan_l2 s s1.1 s1.2) ((0 : Int), ([] : (List Str)))).bind fun (y1 : (Int × (List Str)) ⊕ (Int × (List Str))) =>
 match y1 with
 | (.inl v1) =>
  some (v1.2, v1.1)
 | (.inr v2) =>
 some (v2.2, v2.1)
theorem ref04_Scan_walk {s r} (h : ref04_Scan s = some r) : pP 111 [vS s] (.tup [sL encS r.1, vI r.2]) := by
 unfold ref04_Scan at h
 refine pW0 Tryz.func111 rfl fun g=>go ?_
 refine lQ h (fun s1=>⟨36, 0, ofRegs [(0, vS s), (4, .row 0 ((List.map encS s1.2).length)), (5, vI s1.1)], [.row 9 1 (List.map encS s1.2)]⟩) (Sum.elim (aO .ret (fun v1=>⟨36, 0, ofRegs [(2, .row 0 ((List.map encS v1.2).length)), (3, vI v1.1)], [.row 9 1 (List.map encS v1.2)]⟩)) (aO (.exit 0) (fun v2=>⟨36, 0, ofRegs [(4, .row 0 ((List.map encS v2.2).length)), (5, vI v2.1)], [.row 9 1 (List.map encS v2.2)]⟩))) (Weak.trans (weak_nil 4 9 1 rfl) wI) ?_ <|bE (bO fun v1 _ h w=>eFw) <|bO fun v2 _ h w=>wk w eF
 rintro y1 ⟨a1,a2⟩ v3 h r
 replace h : ref04_Scan_l2 s a1 a2 = some v3 := h
 unfold ref04_Scan_l2 at h
 dsimp only
 refine go ?_
 refine ⟨(s.length : Int), rfl, go ?_⟩
 refine cC h rfl (fun c1 h=>go ?_) fun c1 h=>xE
 refine nD h fun p1 h=>⟨p1, bs (cut s a1 (s.length : Int)), bs_cut _ _ _, go ?_⟩
 refine cP h ref02_Open_walk fun y2 h=>go ?_
 refine cC h rfl (fun c2 h=>xE) fun c2 h=>go ?_
 refine ⟨List.map encS [y2.1], rfl, rfl, rfl, go ?_⟩
 refine nD h fun p2 h=>⟨by simp only [List.length_map]; exact p2, List.map encS (a2 ++ [y2.1]), map_app encS _ _ rfl rfl, go ?_⟩
 refine ⟨(s.length : Int), rfl, (y2.2.1.length : Int), rfl, cN⟩
def ref03_power (d : Disk) : Option (Disk × Bool) :=
 if (decide (d.Fuse = 0)) then some (({ Files := d.Files, Room := d.Room, Fuse := d.Fuse, Off := true } : Disk), false) else
 some (({ Files := d.Files, Room := d.Room, Fuse := (if (decide (d.Fuse > 0)) then (IntKind.i64.wrap (d.Fuse - 1)) else d.Fuse), Off := d.Off } : Disk), true)
theorem ref03_power_walk {d r} (h : ref03_power d = some r) : pP 128 [.agg (encDisk d)] (.tup [.agg (encDisk r.1), vB r.2]) := by
 unfold ref03_power at h
 refine pW0 Tryz.func128 rfl fun g=>go ?_
 refine cC h rfl (fun c1 h=>eF) fun c1 h=>gN 1 ?_
 refine k0 ⟨17, 0, ofRegs [(1, .ptr 0 0), (2, .ptr 1 0)], [.var 31 [sL encFile d.Files, vI d.Room, vI (if (decide (d.Fuse > 0)) then (IntKind.i64.wrap (d.Fuse - 1)) else d.Fuse), vB d.Off], .var 31 [vN, vI 0, vI 0, vB false]]⟩ (go ?_) eF
 refine cD (decide (d.Fuse > 0)) rfl (fun i1=>go ?_) fun i1=>go ?_
 exact ⟨rfl, (wF (.cons (.var (.cons (.same rfl) (.cons (.same rfl) (.cons (.same (show (vI (IntKind.i64.wrap (d.Fuse - 1)) : AV) = (vI (if (decide (d.Fuse > 0)) then (IntKind.i64.wrap (d.Fuse - 1)) else d.Fuse) : AV) from by first | (simp [i1]; done) | (simp only [i1, Bool.or_true, Bool.true_or, Bool.false_or, Bool.or_false, Bool.and_true, Bool.true_and, Bool.and_false, Bool.false_and, Bool.not_true, Bool.not_false, if_true, if_false, Bool.false_eq_true]; done) | (exfalso; revert i1; simp +contextual; done))) (.cons (.same rfl) (.nil)))))) .rest) (.all rfl))⟩
 exact ⟨rfl, (wF (.cons (.var (.cons (.same rfl) (.cons (.same rfl) (.cons (.same (show (vI d.Fuse : AV) = (vI (if (decide (d.Fuse > 0)) then (IntKind.i64.wrap (d.Fuse - 1)) else d.Fuse) : AV) from by first | (simp [i1]; done) | (simp only [i1, Bool.or_true, Bool.true_or, Bool.false_or, Bool.or_false, Bool.and_true, Bool.true_and, Bool.and_false, Bool.false_and, Bool.not_true, Bool.not_false, if_true, if_false, Bool.false_eq_true]; done) | (exfalso; revert i1; simp +contextual; done))) (.cons (.same rfl) (.nil)))))) .rest) (.all rfl))⟩
def ref03_less (d : Disk) (i : Int) : Option (Disk) :=
 (ix d.Files i).bind fun x1 =>
 need ((0 : Int) ≤ (0 : Int) ∧ 0 ≤ i ∧ i ≤ (d.Files.length : Int)) <|
 need ((([] : List File).length + (cut d.Files 0 i).length) * 48 ≤ 140737488355328) <|
 need ((0 : Int) ≤ (IntKind.i64.wrap (i + 1)) ∧ (IntKind.i64.wrap (i + 1)) ≤ (d.Files.length : Int) ∧ (d.Files.length : Int) ≤ (d.Files.length : Int)) <|
 need (((([] : List File) ++ (cut d.Files 0 i)).length + (cut d.Files (IntKind.i64.wrap (i + 1)) (d.Files.length : Int)).length) * 48 ≤ 140737488355328) <|
 some ({ Files := ((([] : List File) ++ (cut d.Files 0 i)) ++ (cut d.Files (IntKind.i64.wrap (i + 1)) (d.Files.length : Int))), Room := (IntKind.i64.wrap ((IntKind.i64.wrap (d.Room + (x1.Safe.length : Int))) + (x1.Wait.length : Int))), Fuse := d.Fuse, Off := d.Off } : Disk)
theorem ref03_less_walk {d i r} (h : ref03_less d i = some r) : pP 129 [.agg (encDisk d), vI i] (.agg (encDisk r)) := by
 unfold ref03_less at h
 refine pW0 Tryz.func129 rfl fun g=>go ?_
 refine Draw.one 19 (.take 0 (.take 1 (.take 2 (.take 3 (.take 4 (.take 5 (.take 6 (.take 7 (.take 8 (.take 9 (.take 10 (.take 11 (.take 12 (.take 13 (.take 14 (.take 15 (.take 16 (.take 17 (.take 18 (.fin)))))))))))))))))))) [] (by kernel_rfl) (go ?_)
 refine bD h fun x1 q1 h=>⟨(ix_some q1).1, _, map_get encFile (ix_some q1).2, rfl, (x1.Safe.length : Int), rfl, (ix_some q1).1, _, map_get encFile (ix_some q1).2, rfl, (x1.Wait.length : Int), rfl, go ?_⟩
 refine ⟨List.map encFile ([] : List File), rfl, map_len (f := encFile) (n := 3) (fun _ => rfl) _, go ?_⟩
 refine nD h fun p1 h=>⟨by simpa only [List.length_map] using p1, List.map encFile (cut d.Files 0 i), map_cut _ _ _ _, rfl, map_len (f := encFile) (n := 3) (fun _ => rfl) _, go ?_⟩
 refine nD h fun p2 h=>⟨by simp only [List.length_map]; exact p2, List.map encFile (([] : List File) ++ (cut d.Files 0 i)), map_app encFile _ _ rfl rfl, go ?_⟩
 refine ⟨map_len (f := encFile) (n := 3) (fun _ => rfl) _, go ?_⟩
 refine nD h fun p3 h=>⟨by simpa only [List.length_map] using p3, List.map encFile (cut d.Files (IntKind.i64.wrap (i + 1)) (d.Files.length : Int)), by rw [map_cut, len_map], rfl, map_len (f := encFile) (n := 3) (fun _ => rfl) _, go ?_⟩
 refine nD h fun p4 h=>⟨by simp only [List.length_map]; exact p4, List.map encFile ((([] : List File) ++ (cut d.Files 0 i)) ++ (cut d.Files (IntKind.i64.wrap (i + 1)) (d.Files.length : Int))), map_app encFile _ _ rfl rfl, eF⟩
def ref03_Delete (d : Disk) (name : Str) : Option (Disk × Int) :=
 if d.Off then some (d, 6) else
 (ref03_at d name).bind fun y1 =>
 if (decide (y1 < 0)) then some (d, 7) else
 (ref03_power d).bind fun y2 =>
 if (!y2.2) then some (y2.1, 6) else
 (ref03_at y2.1 name).bind fun y3 =>
 (ref03_less y2.1 y3).bind fun y4 =>
 some (y4, 0)
theorem ref03_Delete_walk {d name r} (h : ref03_Delete d name = some r) : pP 80 [.agg (encDisk d), vS name] (.tup [.agg (encDisk r.1), vI r.2]) := by
 unfold ref03_Delete at h
 refine pW0 Tryz.func80 rfl fun g=>go ?_
 refine cC h rfl (fun c1 h=>eF) fun c1 h=>go ?_
 refine cP h ref03_at_walk fun y1 h=>go ?_
 refine cC h rfl (fun c3 h=>eF) fun c3 h=>go ?_
 refine cP h ref03_power_walk fun y2 h=>go ?_
 refine cC h rfl (fun c4 h=>eF) fun c4 h=>go ?_
 refine Draw.one 5 (.take 0 (.take 1 (.take 2 (.alt 3 (.alt 4 (.fin) (.nil)) (.nil))))) [] (by kernel_rfl) ⟨go ?_, ⟨⟩⟩
 refine cP h ref03_at_walk fun y3 h=>⟨go ?_, ⟨⟩⟩
 exact cP h ref03_less_walk fun y4 h=>eF
def ref03_with (d : Disk) (i : Int) (f : File) : Option (Disk) :=
 need ((([] : List File).length + d.Files.length) * 48 ≤ 140737488355328) <|
 (ix (([] : List File) ++ d.Files) i).bind fun x1 =>
 some ({ Files := (List.set (([] : List File) ++ d.Files) (i).toNat f), Room := d.Room, Fuse := d.Fuse, Off := d.Off } : Disk)
theorem ref03_with_walk {d i f r} (h : ref03_with d i f = some r) : pP 162 [.agg (encDisk d), vI i, .agg (encFile f)] (.agg (encDisk r)) := by
 unfold ref03_with at h
 refine pW0 Tryz.func162 rfl fun g=>go ?_
 refine ⟨List.map encFile ([] : List File), rfl, rfl, map_len (f := encFile) (n := 3) (fun _ => rfl) _, go ?_⟩
 refine nD h fun p1 h=>⟨by simp only [List.length_map]; exact p1, List.map encFile (([] : List File) ++ d.Files), map_app encFile _ _ rfl rfl, go ?_⟩
 obtain ⟨x1,q1,h⟩ := bind_some h
 refine ⟨⟨rfl, (ix_lt q1).1, by have := ix_lt q1; simp only [List.length_map, List.length_set, List.length_cons, List.length_nil] at *; omega⟩, ?_⟩
 refine ⟨rfl, _, map_get encFile (ix_some q1).2, Nat.le_of_ble_eq_true rfl, List.map encFile (List.set (([] : List File) ++ d.Files) (i).toNat f), map_set encFile _ _ _ rfl, go ?_⟩
 refine fin_here ⟨by first | (simp; done) | (simp only [List.length_map, List.length_append, List.length_take, List.length_drop, List.length_replicate, List.length_set, List.length_mergeSort]; omega), go ?_⟩
 cases h
 rfl
def ref03_Append (d : Disk) (name s : Str) : Option (Disk × Int) :=
 if d.Off then some (d, 6) else
 if ((decide ((name.length : Int) < 1)) || (decide ((name.length : Int) > 16))) then some (d, 1) else
 (ref03_at d name).bind fun y1 =>
 if (if (decide (y1 < 0)) then ((decide ((d.Files.length : Int) ≥ 64)) || (decide ((s.length : Int) > d.Room))) else (decide ((s.length : Int) > d.Room))) then some (d, 5) else
 (if (decide (y1 ≥ 0)) then
 (ix d.Files y1).bind fun x1 =>
 some (x1.Name, x1.Safe, x1.Wait)
 else
 some (name, [], [])).bind fun (y2 : Str × Str × Str) =>
 if (decide ((IntKind.i64.wrap ((IntKind.i64.wrap ((y2.2.1.length : Int) + (y2.2.2.length : Int))) + (s.length : Int))) > 65536)) then some (d, 4) else
 (if (decide (y1 < 0)) then
 need ((([] : List File).length + d.Files.length) * 48 ≤ 140737488355328) <|
 need (((([] : List File) ++ d.Files).length + 1) * 48 ≤ 140737488355328) <|
 some ((d.Files.length : Int), ((([] : List File) ++ d.Files) ++ [({ Name := y2.1, Safe := y2.2.1, Wait := y2.2.2 } : File)]))
 else
 some (y1, d.Files)).bind fun (y3 : Int × (List File)) =>
 need ((0 : Int) ≤ (0 : Int) ∧ 0 ≤ (if ((decide (d.Fuse ≥ 0)) && (decide (d.Fuse < (s.length : Int)))) then d.Fuse else (s.length : Int)) ∧ (if ((decide (d.Fuse ≥ 0)) && (decide (d.Fuse < (s.length : Int)))) then d.Fuse else (s.length : Int)) ≤ (s.length : Int)) <|
 need (y2.2.2.length + (cut s 0 (if ((decide (d.Fuse ≥ 0)) && (decide (d.Fuse < (s.length : Int)))) then d.Fuse else (s.length : Int))).length ≤ 9223372036854775807) <|
 (ref03_with ({ Files := y3.2, Room := d.Room, Fuse := d.Fuse, Off := d.Off } : Disk) y3.1 ({ Name := y2.1, Safe := y2.2.1, Wait := (y2.2.2 ++ (cut s 0 (if ((decide (d.Fuse ≥ 0)) && (decide (d.Fuse < (s.length : Int)))) then d.Fuse else (s.length : Int)))) } : File)).bind fun y4 =>
 if (decide ((if ((decide (d.Fuse ≥ 0)) && (decide (d.Fuse < (s.length : Int)))) then d.Fuse else (s.length : Int)) < (s.length : Int))) then some (({ Files := y4.Files, Room := (IntKind.i64.wrap (y4.Room - (if ((decide (d.Fuse ≥ 0)) && (decide (d.Fuse < (s.length : Int)))) then d.Fuse else (s.length : Int)))), Fuse := (if (decide (y4.Fuse ≥ 0)) then (IntKind.i64.wrap (y4.Fuse - (if ((decide (d.Fuse ≥ 0)) && (decide (d.Fuse < (s.length : Int)))) then d.Fuse else (s.length : Int)))) else y4.Fuse), Off := true } : Disk), 6) else
 some (({ Files := y4.Files, Room := (IntKind.i64.wrap (y4.Room - (if ((decide (d.Fuse ≥ 0)) && (decide (d.Fuse < (s.length : Int)))) then d.Fuse else (s.length : Int)))), Fuse := (if (decide (y4.Fuse ≥ 0)) then (IntKind.i64.wrap (y4.Fuse - (if ((decide (d.Fuse ≥ 0)) && (decide (d.Fuse < (s.length : Int)))) then d.Fuse else (s.length : Int)))) else y4.Fuse), Off := y4.Off } : Disk), 0)
theorem ref03_Append_walk {d name s r} (h : ref03_Append d name s = some r) : pP 125 [.agg (encDisk d), vS name, vS s] (.tup [.agg (encDisk r.1), vI r.2]) := by
 unfold ref03_Append at h
 refine pW0 Tryz.func125 rfl fun g=>go ?_
 refine cC h rfl (fun c1 h=>eF) fun c1 h=>gN 2 ?_
 refine k0 ⟨120, 0, ofRegs [(1, vS name), (2, vS s), (3, .ptr 0 0), (6, .ptr 1 0), (21, vB ((decide ((name.length : Int) < 1)) || (decide ((name.length : Int) > 16))))], [.var 31 (encDisk d), .var 31 [vN, vI 0, vI 0, vB false]]⟩ (go ?_) ((cC h rfl (fun c3 h=>eF) fun c3 h=>go ?_))
 refine ⟨(name.length : Int), rfl, go ?_⟩
 exact cK (decide ((name.length : Int) < 1)) (fun i1=>cI) fun i1=>⟨(name.length : Int), rfl, cI⟩
 refine cP h ref03_at_walk fun y1 h=>gN 1 ?_
 refine k0 ⟨120, 0, ofRegs [(1, vS name), (2, vS s), (3, .ptr 0 0), (6, .ptr 1 0), (8, vI y1), (40, vB (if (decide (y1 < 0)) then ((decide ((d.Files.length : Int) ≥ 64)) || (decide ((s.length : Int) > d.Room))) else (decide ((s.length : Int) > d.Room))))], [.var 31 (encDisk d), .var 31 [vN, vI 0, vI 0, vB false]]⟩ (go ?_) ((cC h rfl (fun c4 h=>eF) fun c4 h=>gN 3 ?_))
 refine cK (decide (y1 < 0)) (fun i1=>⟨_, (len_map _ _).symm, go ?_⟩) fun i1=>⟨(s.length : Int), rfl, cI⟩
 exact cK (decide ((d.Files.length : Int) ≥ 64)) (fun i2=>cI) fun i2=>⟨(s.length : Int), rfl, cI⟩
 refine k1 h (fun y2=>⟨120, 0, ofRegs [(2, vS s), (3, .ptr 0 0), (6, .ptr 1 0), (8, vI y1), (9, .ptr 2 0)], [.var 31 (encDisk d), .var 31 [vN, vI 0, vI 0, vB false], .var 64 [vS y2.1, vS y2.2.1, vS y2.2.2]]⟩) (fun y2 h=>go ?_) fun y2 h=>go ?_
 refine cC h rfl (fun c5 h=>go ?_) fun c5 h=>cE
 refine bD h fun x1 q1 h=>⟨(ix_some q1).1, _, map_get encFile (ix_some q1).2, rfl, cE⟩
 refine ⟨(y2.2.1.length : Int), rfl, (y2.2.2.length : Int), rfl, (s.length : Int), rfl, go ?_⟩
 refine cC h rfl (fun c6 h=>eF) fun c6 h=>gN 1 ?_
 refine k1 h (fun y3=>⟨120, 0, ofRegs [(2, vS s), (3, .ptr 0 0), (6, .ptr 1 0), (8, vI y3.1), (9, .ptr 2 0)], [.var 31 [sL encFile y3.2, vI d.Room, vI d.Fuse, vB d.Off], .var 31 [vN, vI 0, vI 0, vB false], .var 64 [vS y2.1, vS y2.2.1, vS y2.2.2]]⟩) (fun y3 h=>go ?_) fun y3 h=>go ?_
 refine cC h rfl (fun c7 h=>go ?_) fun c7 h=>cE
 refine ⟨_, (len_map _ _).symm, go ?_⟩
 obtain ⟨p1,h⟩ := need_some h
 obtain ⟨p2,h⟩ := need_some h
 refine Draw.many 8 (.take 1 (.take 2 (.take 4 (.alt 0 (.alt 3 (.alt 5 (.alt 6 (.take 7 (.fin)) (.nil)) (.nil)) (.alt 5 (.alt 3 (.alt 6 (.take 7 (.fin)) (.nil)) (.nil)) (.nil))) (.alt 5 (.alt 0 (.alt 3 (.alt 6 (.take 7 (.fin)) (.nil)) (.nil)) (.nil)) (.nil)))))) [] (⟨120, 0, ofRegs [(2, vS s), (3, .ptr 0 0), (6, .ptr 1 0), (8, vI (d.Files.length : Int)), (9, .ptr 2 0), (74, sL encFile ((([] : List File) ++ d.Files) ++ [({ Name := y2.1, Safe := y2.2.1, Wait := y2.2.2 } : File)])), (75, .ptr 0 0)], [.var 31 (encDisk d), .var 31 [vN, vI 0, vI 0, vB false], .var 64 [vS y2.1, vS y2.2.1, vS y2.2.2]]⟩) (by kernel_rfl) ⟨⟨List.map encFile ([] : List File), rfl, ⟨rfl, map_len (f := encFile) (n := 3) (fun _ => rfl) _, by simp only [List.length_map]; exact p1, List.map encFile (([] : List File) ++ d.Files), map_app encFile _ _ rfl rfl, ⟨List.map encFile [({ Name := y2.1, Safe := y2.2.1, Wait := y2.2.2 } : File)], rfl, ⟨rfl, rfl, by simp only [List.length_map]; exact p2, List.map encFile ((([] : List File) ++ d.Files) ++ [({ Name := y2.1, Safe := y2.2.1, Wait := y2.2.2 } : File)]), map_app encFile _ _ rfl rfl, go ?_⟩, ⟨⟩⟩, ⟨⟩⟩, ⟨⟨List.map encFile [({ Name := y2.1, Safe := y2.2.1, Wait := y2.2.2 } : File)], rfl, ⟨rfl, map_len (f := encFile) (n := 3) (fun _ => rfl) _, by simp only [List.length_map]; exact p1, List.map encFile (([] : List File) ++ d.Files), map_app encFile _ _ rfl rfl, ⟨rfl, rfl, by simp only [List.length_map]; exact p2, List.map encFile ((([] : List File) ++ d.Files) ++ [({ Name := y2.1, Safe := y2.2.1, Wait := y2.2.2 } : File)]), map_app encFile _ _ rfl rfl, go ?_⟩, ⟨⟩⟩, ⟨⟩⟩, ⟨⟩⟩⟩, ⟨⟨List.map encFile [({ Name := y2.1, Safe := y2.2.1, Wait := y2.2.2 } : File)], rfl, ⟨List.map encFile ([] : List File), rfl, ⟨rfl, map_len (f := encFile) (n := 3) (fun _ => rfl) _, by simp only [List.length_map]; exact p1, List.map encFile (([] : List File) ++ d.Files), map_app encFile _ _ rfl rfl, ⟨rfl, rfl, by simp only [List.length_map]; exact p2, List.map encFile ((([] : List File) ++ d.Files) ++ [({ Name := y2.1, Safe := y2.2.1, Wait := y2.2.2 } : File)]), map_app encFile _ _ rfl rfl, go ?_⟩, ⟨⟩⟩, ⟨⟩⟩, ⟨⟩⟩, ⟨⟩⟩⟩ cE
 exact Weak.trans (weak_freeze 3 rfl) (wF .rest (.s (.s (.s (.s (.s (.f (.all rfl))))))))
 exact Weak.trans (weak_freeze 3 rfl) (wF .rest (.s (.s (.s (.s (.s (.f (.all rfl))))))))
 exact Weak.trans (weak_freeze 4 rfl) (wF .rest (.s (.s (.s (.s (.s (.f (.all rfl))))))))
 refine ⟨(s.length : Int), rfl, gN 0 ?_⟩
 refine k0 ⟨120, 0, ofRegs [(2, vS s), (3, .ptr 0 0), (6, .ptr 1 0), (8, vI y3.1), (9, .ptr 2 0), (10, vI (if ((decide (d.Fuse ≥ 0)) && (decide (d.Fuse < (s.length : Int)))) then d.Fuse else (s.length : Int)))], [.var 31 [sL encFile y3.2, vI d.Room, vI d.Fuse, vB d.Off], .var 31 [vN, vI 0, vI 0, vB false], .var 64 [vS y2.1, vS y2.2.1, vS y2.2.2]]⟩ ((k0 ⟨120, 0, ofRegs [(2, vS s), (3, .ptr 0 0), (6, .ptr 1 0), (8, vI y3.1), (9, .ptr 2 0), (10, vI (s.length : Int)), (86, vB ((decide (d.Fuse ≥ 0)) && (decide (d.Fuse < (s.length : Int)))))], [.var 31 [sL encFile y3.2, vI d.Room, vI d.Fuse, vB d.Off], .var 31 [vN, vI 0, vI 0, vB false], .var 64 [vS y2.1, vS y2.2.1, vS y2.2.2]]⟩ (go ?_) ?_)) (go ?_)
 exact cK (decide (d.Fuse ≥ 0)) (fun i1=>cI) fun i1=>cI
 exact cD ((decide (d.Fuse ≥ 0)) && (decide (d.Fuse < (s.length : Int)))) rfl (fun i1=>cI) fun i1=>cI
 refine Draw.one 7 (.take 0 (.take 1 (.take 2 (.take 3 (.take 4 (.take 5 (.take 6 (.fin)))))))) [] (by kernel_rfl) (go ?_)
 refine nD h fun p3 h=>⟨p3, bs (cut s 0 (if ((decide (d.Fuse ≥ 0)) && (decide (d.Fuse < (s.length : Int)))) then d.Fuse else (s.length : Int))), bs_cut _ _ _, go ?_⟩
 refine nD h fun p4 h=>⟨p4, _, bs_append _ _, go ?_⟩
 refine cP h ref03_with_walk fun y4 h=>gN 2 ?_
 refine k0 ⟨120, 0, ofRegs [(2, vS s), (3, .ptr 0 0), (6, .ptr 1 0), (10, vI (if ((decide (d.Fuse ≥ 0)) && (decide (d.Fuse < (s.length : Int)))) then d.Fuse else (s.length : Int)))], [.var 31 [sL encFile y4.Files, vI (IntKind.i64.wrap (y4.Room - (if ((decide (d.Fuse ≥ 0)) && (decide (d.Fuse < (s.length : Int)))) then d.Fuse else (s.length : Int)))), vI (if (decide (y4.Fuse ≥ 0)) then (IntKind.i64.wrap (y4.Fuse - (if ((decide (d.Fuse ≥ 0)) && (decide (d.Fuse < (s.length : Int)))) then d.Fuse else (s.length : Int)))) else y4.Fuse), vB y4.Off], .var 31 [vN, vI 0, vI 0, vB false]]⟩ (go ?_) (go ?_)
 refine cD (decide (y4.Fuse ≥ 0)) rfl (fun i1=>go ?_) fun i1=>go ?_
 exact ⟨rfl, (wF (.cons (.var (.cons (.same rfl) (.cons (.same rfl) (.cons (.same (show (vI (IntKind.i64.wrap (y4.Fuse - (if ((decide (d.Fuse ≥ 0)) && (decide (d.Fuse < (s.length : Int)))) then d.Fuse else (s.length : Int)))) : AV) = (vI (if (decide (y4.Fuse ≥ 0)) then (IntKind.i64.wrap (y4.Fuse - (if ((decide (d.Fuse ≥ 0)) && (decide (d.Fuse < (s.length : Int)))) then d.Fuse else (s.length : Int)))) else y4.Fuse) : AV) from by first | (simp [i1]; done) | (simp only [i1, Bool.or_true, Bool.true_or, Bool.false_or, Bool.or_false, Bool.and_true, Bool.true_and, Bool.and_false, Bool.false_and, Bool.not_true, Bool.not_false, if_true, if_false, Bool.false_eq_true]; done) | (exfalso; revert i1; simp +contextual; done))) (.cons (.same rfl) (.nil)))))) .rest) (.all rfl))⟩
 exact ⟨rfl, (wF (.cons (.var (.cons (.same rfl) (.cons (.same rfl) (.cons (.same (show (vI y4.Fuse : AV) = (vI (if (decide (y4.Fuse ≥ 0)) then (IntKind.i64.wrap (y4.Fuse - (if ((decide (d.Fuse ≥ 0)) && (decide (d.Fuse < (s.length : Int)))) then d.Fuse else (s.length : Int)))) else y4.Fuse) : AV) from by first | (simp [i1]; done) | (simp only [i1, Bool.or_true, Bool.true_or, Bool.false_or, Bool.or_false, Bool.and_true, Bool.true_and, Bool.and_false, Bool.false_and, Bool.not_true, Bool.not_false, if_true, if_false, Bool.false_eq_true]; done) | (exfalso; revert i1; simp +contextual; done))) (.cons (.same rfl) (.nil)))))) .rest) (.all rfl))⟩
 refine ⟨(s.length : Int), rfl, go ?_⟩
 exact cC h rfl (fun c8 h=>eF) fun c8 h=>eF
def ref03_Sync (d : Disk) (name : Str) : Option (Disk × Int) :=
 if d.Off then some (d, 6) else
 (ref03_at d name).bind fun y1 =>
 if (decide (y1 < 0)) then some (d, 7) else
 (ix d.Files y1).bind fun x1 =>
 need (x1.Safe.length + x1.Wait.length ≤ 9223372036854775807) <|
 (ref03_with d y1 ({ Name := x1.Name, Safe := (x1.Safe ++ x1.Wait), Wait := [] } : File)).bind fun y2 =>
 some (y2, 0)
theorem ref03_Sync_walk {d name r} (h : ref03_Sync d name = some r) : pP 124 [.agg (encDisk d), vS name] (.tup [.agg (encDisk r.1), vI r.2]) := by
 unfold ref03_Sync at h
 refine pW0 Tryz.func124 rfl fun g=>go ?_
 refine cC h rfl (fun c1 h=>eF) fun c1 h=>go ?_
 refine cP h ref03_at_walk fun y1 h=>go ?_
 refine cC h rfl (fun c3 h=>eF) fun c3 h=>go ?_
 refine bD h fun x1 q1 h=>⟨(ix_some q1).1, _, map_get encFile (ix_some q1).2, rfl, go ?_⟩
 refine nD h fun p1 h=>⟨p1, _, bs_append _ _, go ?_⟩
 exact cP h ref03_with_walk fun y2 h=>eF
def ref03_Rename (d : Disk) (from_ to : Str) : Option (Disk × Int) :=
 if d.Off then some (d, 6) else
 if ((decide ((to.length : Int) < 1)) || (decide ((to.length : Int) > 16))) then some (d, 1) else
 (ref03_at d from_).bind fun y1 =>
 if (decide (y1 < 0)) then some (d, 7) else
 if (decide (from_ = to)) then some (d, 0) else
 (ref03_power d).bind fun y2 =>
 if (!y2.2) then some (y2.1, 6) else
 (ref03_at y2.1 to).bind fun y3 =>
 (if (decide (y3 ≥ 0)) then
 (ref03_less y2.1 y3).bind fun y4 =>
 some (y4.Files, y4.Room, y4.Fuse, y4.Off)
 else
 some (y2.1.Files, y2.1.Room, y2.1.Fuse, y2.1.Off)).bind fun (y5 : (List File) × Int × Int × Bool) =>
 (ref03_at ({ Files := y5.1, Room := y5.2.1, Fuse := y5.2.2.1, Off := y5.2.2.2 } : Disk) from_).bind fun y6 =>
 (ix y5.1 y6).bind fun x1 =>
 (ref03_with ({ Files := y5.1, Room := y5.2.1, Fuse := y5.2.2.1, Off := y5.2.2.2 } : Disk) y6 ({ Name := to, Safe := x1.Safe, Wait := x1.Wait } : File)).bind fun y7 =>
 some (y7, 0)
theorem ref03_Rename_walk {d from_ to r} (h : ref03_Rename d from_ to = some r) : pP 127 [.agg (encDisk d), vS from_, vS to] (.tup [.agg (encDisk r.1), vI r.2]) := by
 unfold ref03_Rename at h
 refine pW0 Tryz.func127 rfl fun g=>go ?_
 refine cC h rfl (fun c1 h=>eF) fun c1 h=>gN 2 ?_
 refine k0 ⟨63, 0, ofRegs [(1, vS from_), (2, vS to), (3, .ptr 0 0), (6, .ptr 1 0), (22, vB ((decide ((to.length : Int) < 1)) || (decide ((to.length : Int) > 16))))], [.var 31 (encDisk d), .var 31 [vN, vI 0, vI 0, vB false]]⟩ (go ?_) ((cC h rfl (fun c3 h=>eF) fun c3 h=>go ?_))
 refine ⟨(to.length : Int), rfl, go ?_⟩
 exact cK (decide ((to.length : Int) < 1)) (fun i1=>cI) fun i1=>⟨(to.length : Int), rfl, cI⟩
 refine cP h ref03_at_walk fun y1 h=>go ?_
 refine cC h rfl (fun c4 h=>eF) fun c4 h=>go ?_
 refine ⟨_, bs_eq _ _, go ?_⟩
 refine cC h rfl (fun c5 h=>eF) fun c5 h=>go ?_
 refine cP h ref03_power_walk fun y2 h=>go ?_
 refine cC h rfl (fun c6 h=>eF) fun c6 h=>go ?_
 refine cP h ref03_at_walk fun y3 h=>gN 0 ?_
 refine k1 h (fun y4=>⟨63, 0, ofRegs [(1, vS from_), (2, vS to), (3, .ptr 0 0), (6, .ptr 1 0)], [.var 31 [sL encFile y4.1, vI y4.2.1, vI y4.2.2.1, vB y4.2.2.2], .var 31 [vN, vI 0, vI 0, vB false]]⟩) (fun y4 h=>go ?_) fun y4 h=>go ?_
 refine cC h rfl (fun c7 h=>go ?_) fun c7 h=>cE
 exact cP h ref03_less_walk fun y5 h=>cE
 refine cP h ref03_at_walk fun y6 h=>go ?_
 refine bD h fun x1 q1 h=>⟨(ix_some q1).1, _, map_get encFile (ix_some q1).2, rfl, go ?_⟩
 exact cP h ref03_with_walk fun y7 h=>eF
def ref04_cut_l2 (a1 a2 : Int) (a3 : (List File)) (a4 a5 : Int) (a6 : Bool) : Option ((Int × Int × (List File) × Int × Int × Bool) ⊕ (((List File) × Int × Int × Bool) ⊕ (Int × (List File) × Int × Int × Bool))) :=
 if ((decide (a2 ≤ 1000000)) && (decide (a1 = 0))) then
 (ref04_Name a2).bind fun y1 =>
 (ref03_Find ({ Files := a3, Room := a4, Fuse := a5, Off := a6 } : Disk) y1).bind fun y2 =>
 if (!y2.2) then some (.inr (.inl (a3, a4, a5, a6))) else
 (ref03_Delete ({ Files := a3, Room := a4, Fuse := a5, Off := a6 } : Disk) y1).bind fun y3 =>
 some (.inl (y3.2, (IntKind.i64.wrap (a2 + 1)), y3.1.Files, y3.1.Room, y3.1.Fuse, y3.1.Off))
 else
 some (.inr (.inr (a1, a3, a4, a5, a6)))
def ref04_cut (d : Disk) (seg : Int) (s : Str) : Option (Disk × Int) :=
 (ref03_Find d [119, 46, 110, 101, 119]).bind fun y1 =>
 (if y1.2 then
 (ref03_Delete d [119, 46, 110, 101, 119]).bind fun y2 =>
 some (y2.2, y2.1.Files, y2.1.Room, y2.1.Fuse, y2.1.Off)
 else
 some (0, d.Files, d.Room, d.Fuse, d.Off)).bind fun (y3 : Int × (List File) × Int × Int × Bool) =>
 (if (decide (y3.1 = 0)) then
 (ref03_Append ({ Files := y3.2.1, Room := y3.2.2.1, Fuse := y3.2.2.2.1, Off := y3.2.2.2.2 } : Disk) [119, 46, 110, 101, 119] s).bind fun y4 =>
 some (y4.2, y4.1.Files, y4.1.Room, y4.1.Fuse, y4.1.Off)
 else
 some (y3.1, y3.2.1, y3.2.2.1, y3.2.2.2.1, y3.2.2.2.2)).bind fun (y5 : Int × (List File) × Int × Int × Bool) =>
 (if (decide (y5.1 = 0)) then
 (ref03_Sync ({ Files := y5.2.1, Room := y5.2.2.1, Fuse := y5.2.2.2.1, Off := y5.2.2.2.2 } : Disk) [119, 46, 110, 101, 119]).bind fun y6 =>
 some (y6.2, y6.1.Files, y6.1.Room, y6.1.Fuse, y6.1.Off)
 else
 some (y5.1, y5.2.1, y5.2.2.1, y5.2.2.2.1, y5.2.2.2.2)).bind fun (y7 : Int × (List File) × Int × Int × Bool) =>
 (if (decide (y7.1 = 0)) then
 (ref04_Name seg).bind fun y8 =>
 (ref03_Rename ({ Files := y7.2.1, Room := y7.2.2.1, Fuse := y7.2.2.2.1, Off := y7.2.2.2.2 } : Disk) [119, 46, 110, 101, 119] y8).bind fun y10 =>
 some (y10.2, y10.1.Files, y10.1.Room, y10.1.Fuse, y10.1.Off)
 else
 some (y7.1, y7.2.1, y7.2.2.1, y7.2.2.2.1, y7.2.2.2.2)).bind fun (y11 : Int × (List File) × Int × Int × Bool) =>
 (loop (fun (s1 : Int × Int × (List File) × Int × Int × Bool) => ref04_cut_l2 s1.1 s1.2.1 s1.2.2.1 s1.2.2.2.1 s1.2.2.2.2.1 s1.2.2.2.2.2) (y11.1, (IntKind.i64.wrap (seg + 1)), y11.2.1, y11.2.2.1, y11.2.2.2.1, y11.2.2.2.2)).bind fun (y13 : ((List File) × Int × Int × Bool) ⊕ (Int × (List File) × Int × Int × Bool)) =>
 match y13 with
 | (.inl v1) =>
  some (({ Files := v1.1, Room := v1.2.1, Fuse := v1.2.2.1, Off := v1.2.2.2 } : Disk), 0)
 | (.inr v2) =>
 some (({ Files := v2.2.1, Room := v2.2.2.1, Fuse := v2.2.2.2.1, Off := v2.2.2.2.2 } : Disk), v2.1)
theorem ref04_cut_walk {d seg s r} (h : ref04_cut d seg s = some r) : pP 112 [.agg (encDisk d), vI seg, vS s] (.tup [.agg (encDisk r.1), vI r.2]) := by
 unfold ref04_cut at h
 refine pW0 Tryz.func112 rfl fun g=>go ?_
 refine cP h ref03_Find_walk fun y1 h=>gN 0 ?_
 refine k1 h (fun y2=>⟨78, 0, ofRegs [(1, vI seg), (2, vS s), (3, .ptr 0 0), (6, .ptr 1 0), (8, vI y2.1)], [.var 31 [sL encFile y2.2.1, vI y2.2.2.1, vI y2.2.2.2.1, vB y2.2.2.2.2], .var 31 [vN, vI 0, vI 0, vB false]]⟩) (fun y2 h=>go ?_) fun y2 h=>(k1 h (fun y3=>⟨78, 0, ofRegs [(1, vI seg), (3, .ptr 0 0), (6, .ptr 1 0), (8, vI y3.1)], [.var 31 [sL encFile y3.2.1, vI y3.2.2.1, vI y3.2.2.2.1, vB y3.2.2.2.2], .var 31 [vN, vI 0, vI 0, vB false]]⟩) (fun y3 h=>go ?_) fun y3 h=>(k1 h (fun y4=>⟨78, 0, ofRegs [(1, vI seg), (3, .ptr 0 0), (6, .ptr 1 0), (8, vI y4.1)], [.var 31 [sL encFile y4.2.1, vI y4.2.2.1, vI y4.2.2.2.1, vB y4.2.2.2.2], .var 31 [vN, vI 0, vI 0, vB false]]⟩) (fun y4 h=>go ?_) fun y4 h=>(k1 h (fun y5=>⟨78, 0, ofRegs [(1, vI seg), (3, .ptr 0 0), (6, .ptr 1 0), (8, vI y5.1)], [.var 31 [sL encFile y5.2.1, vI y5.2.2.1, vI y5.2.2.2.1, vB y5.2.2.2.2], .var 31 [vN, vI 0, vI 0, vB false]]⟩) (fun y5 h=>go ?_) fun y5 h=>go ?_)))
 refine cC h rfl (fun c1 h=>go ?_) fun c1 h=>cE
 exact cP h ref03_Delete_walk fun y6 h=>cE
 refine cC h rfl (fun c2 h=>go ?_) fun c2 h=>cE
 exact cP h ref03_Append_walk fun y7 h=>cE
 refine cC h rfl (fun c3 h=>go ?_) fun c3 h=>cE
 exact cP h ref03_Sync_walk fun y8 h=>cE
 refine cC h rfl (fun c4 h=>go ?_) fun c4 h=>cE
 obtain ⟨y10,q1,h⟩ := bind_some h
 obtain ⟨y11,q2,h⟩ := bind_some h
 refine Draw.many 8 (.take 1 (.alt 0 (.alt 2 (.alt 3 (.take 4 (.take 5 (.take 6 (.alt 7 (.fin) (.nil))))) (.nil)) (.nil)) (.alt 2 (.alt 0 (.alt 3 (.take 4 (.take 5 (.take 6 (.alt 7 (.fin) (.nil))))) (.nil)) (.nil)) (.nil)))) [0, 2, 3, 4, 5, 6, 7] (⟨78, 0, ofRegs [(1, vI seg), (3, .ptr 0 0), (6, .ptr 1 0), (48, vI y11.2)], [.var 31 (encDisk y11.1), .var 31 [vN, vI 0, vI 0, vB false]]⟩) (by kernel_rfl) ⟨⟨go ?_, ⟨⟩⟩, ⟨go ?_, ⟨⟩⟩⟩ cE
 refine mP (ref04_Name_walk q1) ⟨go ?_, ⟨⟩⟩
 exact mP (ref03_Rename_walk q2) ⟨cA, ⟨⟩⟩
 refine mP (ref04_Name_walk q1) ⟨⟨go ?_, ⟨⟩⟩, ⟨⟩⟩
 exact mP (ref03_Rename_walk q2) ⟨cA, ⟨⟩⟩
 refine lQ h (fun s1=>⟨78, 0, ofRegs [(3, .ptr 0 0), (6, .ptr 1 0), (8, vI s1.1), (11, vI s1.2.1)], [.var 31 [sL encFile s1.2.2.1, vI s1.2.2.2.1, vI s1.2.2.2.2.1, vB s1.2.2.2.2.2], .var 31 [vN, vI 0, vI 0, vB false]]⟩) (Sum.elim (aO .ret (fun v1=>⟨78, 0, ofRegs [(6, .ptr 1 0), (7, vI 0)], [.gone, .var 31 [sL encFile v1.1, vI v1.2.1, vI v1.2.2.1, vB v1.2.2.2]]⟩)) (aO (.exit 0) (fun v2=>⟨78, 0, ofRegs [(3, .ptr 0 0), (6, .ptr 1 0), (8, vI v2.1)], [.var 31 [sL encFile v2.2.1, vI v2.2.2.1, vI v2.2.2.2.1, vB v2.2.2.2.2], .var 31 [vN, vI 0, vI 0, vB false]]⟩))) wA ?_ <|bE (bO fun v1 _ h w=>eFw) <|bO fun v2 _ h w=>wk w eF
 rintro y13 ⟨a1,a2,a3,a4,a5,a6⟩ v3 h r
 replace h : ref04_cut_l2 a1 a2 a3 a4 a5 a6 = some v3 := h
 unfold ref04_cut_l2 at h
 dsimp only
 refine gN 1 ?_
 refine k0 ⟨78, 0, ofRegs [(3, .ptr 0 0), (6, .ptr 1 0), (8, vI a1), (11, vI a2), (56, vB ((decide (a2 ≤ 1000000)) && (decide (a1 = 0))))], [.var 31 [sL encFile a3, vI a4, vI a5, vB a6], .var 31 [vN, vI 0, vI 0, vB false]]⟩ (go ?_) ((cC h rfl (fun c5 h=>go ?_) fun c5 h=>xE))
 exact cK (decide (a2 ≤ 1000000)) (fun i1=>cI) fun i1=>cI
 obtain ⟨y14,q3,h⟩ := bind_some h
 obtain ⟨y15,q4,h⟩ := bind_some h
 refine Draw.many 9 (.take 0 (.take 1 (.alt 2 (.alt 3 (.take 4 (.take 5 (.take 6 (.alt 7 (.alt 8 (.fin) (.nil)) (.nil))))) (.alt 7 (.alt 3 (.take 4 (.take 5 (.take 6 (.alt 8 (.fin) (.nil))))) (.nil)) (.nil))) (.alt 7 (.alt 2 (.alt 3 (.take 4 (.take 5 (.take 6 (.alt 8 (.fin) (.nil))))) (.nil)) (.nil)) (.nil))))) [2, 3, 4, 5, 6, 7] (⟨78, 0, ofRegs [(3, .ptr 0 0), (6, .ptr 1 0), (11, vI a2), (65, vB y15.2)], [.var 31 [sL encFile a3, vI a4, vI a5, vB a6], .var 31 [vN, vI 0, vI 0, vB false]]⟩) (by kernel_rfl) ⟨go ?_, ⟨⟨go ?_, ⟨⟩⟩, ⟨⟩⟩⟩ (go ?_)
 refine mP (ref04_Name_walk q3) ⟨go ?_, ⟨⟨go ?_, ⟨⟩⟩, ⟨⟩⟩⟩
 exact mP (ref03_Find_walk q4) ⟨⟨cA, ⟨⟩⟩, ⟨⟩⟩
 exact mP (ref03_Find_walk q4) ⟨cA, ⟨⟩⟩
 refine mP (ref04_Name_walk q3) ⟨go ?_, ⟨⟩⟩
 exact mP (ref03_Find_walk q4) ⟨cA, ⟨⟩⟩
 refine cC h rfl (fun c6 h=>go ?_) fun c6 h=>go ?_
 cases h
 obtain rfl := r _ rfl
 exact ⟨rfl, (wF (.g .rest) (.all rfl))⟩
 obtain ⟨y16,q5,h⟩ := bind_some h
 refine Draw.many 8 (.take 1 (.alt 0 (.alt 2 (.alt 3 (.take 4 (.take 5 (.take 6 (.alt 7 (.fin) (.nil))))) (.nil)) (.nil)) (.alt 2 (.alt 0 (.alt 3 (.take 4 (.take 5 (.take 6 (.alt 7 (.fin) (.nil))))) (.nil)) (.nil)) (.nil)))) [0, 2, 3, 4, 5, 6, 7] (⟨78, 0, ofRegs [(3, .ptr 0 0), (6, .ptr 1 0), (11, vI a2), (75, vI y16.2)], [.var 31 (encDisk y16.1), .var 31 [vN, vI 0, vI 0, vB false]]⟩) (by kernel_rfl) ⟨⟨go ?_, ⟨⟩⟩, ⟨go ?_, ⟨⟩⟩⟩ cN
 refine mP (ref04_Name_walk q3) ⟨go ?_, ⟨⟩⟩
 exact mP (ref03_Delete_walk q5) ⟨cA, ⟨⟩⟩
 refine mP (ref04_Name_walk q3) ⟨⟨go ?_, ⟨⟩⟩, ⟨⟩⟩
 exact mP (ref03_Delete_walk q5) ⟨cA, ⟨⟩⟩
def ref04_Recover_l2 (d : Disk) (from_ a1 a2 : Int) (a3 : (List Str)) : Option ((Int × Int × (List Str)) ⊕ (((List Str) × Int × Int × (List File) × Int × Int × Bool) ⊕ (Int × (List Str)))) :=
 if (decide (a2 ≤ 1000000)) then
 (ref04_Name a2).bind fun y1 =>
 (ref03_Read d y1).bind fun y2 =>
 if (!(decide (y2.2 = 0))) then some (.inr (.inl (a3, a1, 0, d.Files, d.Room, d.Fuse, d.Off))) else
 (ref04_Scan y2.1).bind fun y3 =>
 need ((a3.length + y3.1.length) * 16 ≤ 140737488355328) <|
 if (decide (y3.2 < (y2.1.length : Int))) then
 need ((0 : Int) ≤ (0 : Int) ∧ 0 ≤ y3.2 ∧ y3.2 ≤ (y2.1.length : Int)) <|
 (ref04_cut d a2 (cut y2.1 0 y3.2)).bind fun y4 =>
 if (!(decide (y4.2 = 0))) then some (.inr (.inl ([], from_, y4.2, y4.1.Files, y4.1.Room, y4.1.Fuse, y4.1.Off))) else
 some (.inr (.inl ((a3 ++ y3.1), a2, 0, y4.1.Files, y4.1.Room, y4.1.Fuse, y4.1.Off)))
 else
 some (.inl (a2, (IntKind.i64.wrap (a2 + 1)), (a3 ++ y3.1)))
 else
 some (.inr (.inr (a1, a3)))
def ref04_Recover (d : Disk) (from_ : Int) : Option (Disk × (List Str) × Int × Int) :=
 if ((decide (from_ < 1)) || (decide (from_ > 1000000))) then some (d, [], from_, 1) else
 (loop (fun (s1 : Int × Int × (List Str)) => ref04_Recover_l2 d from_ s1.1 s1.2.1 s1.2.2) (from_, from_, ([] : (List Str)))).bind fun (y1 : ((List Str) × Int × Int × (List File) × Int × Int × Bool) ⊕ (Int × (List Str))) =>
 match y1 with
 | (.inl v1) =>
  some (({ Files := v1.2.2.2.1, Room := v1.2.2.2.2.1, Fuse := v1.2.2.2.2.2.1, Off := v1.2.2.2.2.2.2 } : Disk), v1.1, v1.2.1, v1.2.2.1)
 | (.inr v2) =>
 some (d, v2.2, v2.1, 0)
theorem ref04_Recover_walk {d from_ r} (h : ref04_Recover d from_ = some r) : pP 57 [.agg (encDisk d), vI from_] (.tup [.agg (encDisk r.1), sL encS r.2.1, vI r.2.2.1, vI r.2.2.2]) := by
 unfold ref04_Recover at h
 refine pW0 Tryz.func57 rfl fun g=>gN 3 ?_
 refine k0 ⟨76, 0, ofRegs [(1, vI from_), (2, .ptr 0 0), (4, .ptr 1 0), (22, vB ((decide (from_ < 1)) || (decide (from_ > 1000000))))], [.var 31 (encDisk d), .var 31 [vN, vI 0, vI 0, vB false]]⟩ (go ?_) ((cC h rfl (fun c1 h=>eF) fun c1 h=>go ?_))
 exact cK (decide (from_ < 1)) (fun i1=>cI) fun i1=>cI
 refine lQ h (fun s1=>⟨76, 0, ofRegs [(1, vI from_), (2, .ptr 0 0), (4, .ptr 1 0), (8, .row 2 ((List.map encS s1.2.2).length)), (9, vI s1.1), (10, vI s1.2.1)], [.var 31 (encDisk d), .var 31 [vN, vI 0, vI 0, vB false], .row 9 1 (List.map encS s1.2.2)]⟩) (Sum.elim (aO .ret (fun v1=>⟨76, 0, ofRegs [(4, .ptr 1 0), (5, sL encS v1.1), (6, vI v1.2.1), (7, vI v1.2.2.1)], [.gone, .var 31 [sL encFile v1.2.2.2.1, vI v1.2.2.2.2.1, vI v1.2.2.2.2.2.1, vB v1.2.2.2.2.2.2]]⟩)) (aO (.exit 0) (fun v2=>⟨76, 0, ofRegs [(2, .ptr 0 0), (4, .ptr 1 0), (8, .row 2 ((List.map encS v2.2).length)), (9, vI v2.1)], [.var 31 (encDisk d), .var 31 [vN, vI 0, vI 0, vB false], .row 9 1 (List.map encS v2.2)]⟩))) (Weak.trans (weak_nil 8 9 1 rfl) wI) ?_ <|bE (bO fun v1 _ h w=>eFw) <|bO fun v2 _ h w=>wk w eF
 rintro y1 ⟨a1,a2,a3⟩ v3 h r
 replace h : ref04_Recover_l2 d from_ a1 a2 a3 = some v3 := h
 unfold ref04_Recover_l2 at h
 dsimp only
 refine go ?_
 refine cC h rfl (fun c2 h=>go ?_) fun c2 h=>xE
 refine Draw.one 9 (.take 0 (.take 1 (.alt 2 (.alt 3 (.take 4 (.take 5 (.take 6 (.take 7 (.take 8 (.fin)))))) (.nil)) (.nil)))) [] (by kernel_rfl) ⟨go ?_, ⟨⟩⟩
 refine cP h ref04_Name_walk fun y2 h=>⟨go ?_, ⟨⟩⟩
 refine cP h ref03_Read_walk fun y3 h=>go ?_
 refine cC h rfl (fun c3 h=>go ?_) fun c3 h=>go ?_
 cases h
 obtain rfl := r _ rfl
 exact ⟨rfl, Weak.trans (weak_freeze 2 rfl) (wF (.g .rest) (.s (.f (.all rfl))))⟩
 refine cP h ref04_Scan_walk fun y4 h=>go ?_
 refine ⟨rfl, map_len (f := encS) (n := 1) (fun _ => rfl) _, go ?_⟩
 refine nD h fun p1 h=>⟨by simp only [List.length_map]; exact p1, List.map encS (a3 ++ y4.1), map_app encS _ _ rfl rfl, go ?_⟩
 refine ⟨(y3.1.length : Int), rfl, go ?_⟩
 refine cC h rfl (fun c4 h=>gN 1 ?_) fun c4 h=>cN
 refine Tri.weak (show Weak _ ⟨76, 0, ofRegs [(1, vI from_), (2, .ptr 0 0), (4, .ptr 1 0), (8, .row 2 ((List.map encS (a3 ++ y4.1)).length)), (9, vI a2), (10, vI a2), (11, vS y3.1), (12, vI y3.2), (13, sL encS y4.1), (14, vI y4.2), (27, vI a2), (28, vB true), (31, .tup [vS y3.1, vI y3.2]), (32, .agg [sL encFile d.Files, vI d.Room, vI d.Fuse, vB d.Off]), (33, vI a2), (34, vS y2), (35, .tup [vS y3.1, vI y3.2]), (36, vS y3.1), (37, vI y3.2), (38, vI y3.2), (39, vB false), (43, vI a2), (44, .tup [sL encS y4.1, vI y4.2]), (45, vS y3.1), (46, .tup [sL encS y4.1, vI y4.2]), (47, sL encS y4.1), (48, vI y4.2), (50, sL encS y4.1), (51, .row 2 ((List.map encS (a3 ++ y4.1)).length)), (52, vI y4.2), (53, vS y3.1), (54, vI (y3.1.length : Int)), (55, vB true)], [.var 31 (encDisk d), .var 31 [vN, vI 0, vI 0, vB false], .row 9 1 (List.map encS (a3 ++ y4.1))]⟩ from wA) (go ?_)
 obtain ⟨p2,h⟩ := need_some h
 obtain ⟨y5,q1,h⟩ := bind_some h
 refine Draw.many 11 (.take 0 (.take 1 (.take 2 (.take 3 (.take 4 (.alt 5 (.take 6 (.take 7 (.take 8 (.alt 9 (.alt 10 (.fin) (.nil)) (.nil))))) (.alt 9 (.alt 5 (.take 6 (.take 7 (.take 8 (.alt 10 (.fin) (.nil))))) (.nil)) (.nil)))))))) [3, 4, 5, 6, 7, 8] (⟨76, 0, ofRegs [(1, vI from_), (4, .ptr 1 0), (8, .row 2 ((List.map encS (a3 ++ y4.1)).length)), (9, vI a2), (15, .ptr 3 0), (64, vI y5.2)], [.var 31 (encDisk d), .var 31 [vN, vI 0, vI 0, vB false], .row 9 1 (List.map encS (a3 ++ y4.1)), .var 31 (encDisk y5.1)]⟩) (by kernel_rfl) ⟨p2, bs (cut y3.1 0 y4.2), bs_cut _ _ _, go ?_, ⟨⟨go ?_, ⟨⟩⟩, ⟨⟩⟩⟩ (go ?_)
 exact mP (ref04_cut_walk q1) ⟨⟨cA, ⟨⟩⟩, ⟨⟩⟩
 exact mP (ref04_cut_walk q1) ⟨cA, ⟨⟩⟩
 refine cC h rfl (fun c5 h=>go ?_) fun c5 h=>go ?_
 cases h
 obtain rfl := r _ rfl
 exact ⟨rfl, (wF (.g .rest) (.s (.n (.all rfl))))⟩
 cases h
 obtain rfl := r _ rfl
 exact ⟨rfl, Weak.trans (weak_freeze 2 rfl) (wF (.g .rest) (.s (.f (.all rfl))))⟩
def ref07_Take_l2 (y1 : Int × Str × Int) (a1 : Str) (a2 : Int) (a3 : (List Write)) : Option ((Str × Int × (List Write)) ⊕ ((Unit) ⊕ (Str × (List Write)))) :=
 if (decide (a2 < y1.1)) then
 (ref01_TakeNum a1).bind fun y2 =>
 if ((!(decide (y2.2.2 = 0))) || (decide (y2.1 > 1))) then some (.inr (.inl ())) else
 (ref01_TakeText y2.2.1 32).bind fun y3 =>
 if (!(decide (y3.2.2 = 0))) then some (.inr (.inl ())) else
 (ref01_TakeText y3.2.1 64).bind fun y4 =>
 if (!(decide (y4.2.2 = 0))) then some (.inr (.inl ())) else
 need ((a3.length + 1) * 40 ≤ 140737488355328) <|
 some (.inl (y4.2.1, (IntKind.u64.wrap (a2 + 1)), (a3 ++ [({ Key := y3.1, Val := y4.1, Del := (decide (y2.1 = 1)) } : Write)])))
 else
 some (.inr (.inr (a1, a3)))
def ref07_Take (s : Str) : Option (Batch × Int) :=
 (ref01_TakeNum s).bind fun y1 =>
 if ((!(decide (y1.2.2 = 0))) || (decide (y1.1 > 2))) then some (({ Kind := 0, Token := [], Writes := [] } : Batch), 3) else
 (ref01_TakeText y1.2.1 16).bind fun y2 =>
 if (!(decide (y2.2.2 = 0))) then some (({ Kind := 0, Token := [], Writes := [] } : Batch), 3) else
 (ref01_TakeNum y2.2.1).bind fun y3 =>
 if ((!(decide (y3.2.2 = 0))) || (decide (y3.1 > 24))) then some (({ Kind := 0, Token := [], Writes := [] } : Batch), 3) else
 (loop (fun (s1 : Str × Int × (List Write)) => ref07_Take_l2 y3 s1.1 s1.2.1 s1.2.2) (y3.2.1, (0 : Int), ([] : (List Write)))).bind fun (y4 : (Unit) ⊕ (Str × (List Write))) =>
 match y4 with
 | (.inl v1) =>
  some (({ Kind := 0, Token := [], Writes := [] } : Batch), 3)
 | (.inr v2) =>
 (ref07_May ({ Kind := (IntKind.i64.wrap y1.1), Token := y2.1, Writes := v2.2 } : Batch)).bind fun y5 =>
 if ((decide ((v2.1.length : Int) > 0)) || (!y5)) then some (({ Kind := 0, Token := [], Writes := [] } : Batch), 3) else
 some (({ Kind := (IntKind.i64.wrap y1.1), Token := y2.1, Writes := v2.2 } : Batch), 0)
theorem ref07_Take_walk {s r} (h : ref07_Take s = some r) : pP 58 [vS s] (.tup [.agg (encBatch r.1), vI r.2]) := by
 unfold ref07_Take at h
 refine pW0 Tryz.func58 rfl fun g=>go ?_
 refine cP h ref01_TakeNum_walk fun y1 h=>gN 1 ?_
 refine k0 ⟨122, 0, ofRegs [(2, .ptr 0 0), (4, vU y1.1), (5, vS y1.2.1), (36, vB ((!(decide (y1.2.2 = 0))) || (decide (y1.1 > 2))))], [.var 25 [vI 0, vS [], vN]]⟩ (go ?_) ((cC h rfl (fun c1 h=>eF) fun c1 h=>go ?_))
 exact cK (!(decide (y1.2.2 = 0))) (fun i1=>cI) fun i1=>cI
 refine cP h ref01_TakeText_walk fun y2 h=>go ?_
 refine cC h rfl (fun c2 h=>eF) fun c2 h=>go ?_
 refine cP h ref01_TakeNum_walk fun y3 h=>gN 1 ?_
 refine k0 ⟨122, 0, ofRegs [(2, .ptr 0 0), (4, vU y1.1), (7, vS y2.1), (10, vU y3.1), (11, vS y3.2.1), (58, vB ((!(decide (y3.2.2 = 0))) || (decide (y3.1 > 24))))], [.var 25 [vI 0, vS [], vN]]⟩ (go ?_) ((cC h rfl (fun c3 h=>eF) fun c3 h=>go ?_))
 exact cK (!(decide (y3.2.2 = 0))) (fun i1=>cI) fun i1=>cI
 refine ⟨(IntKind.i64.wrap y1.1), rfl, go ?_⟩
 refine lQ h (fun s1=>⟨122, 0, ofRegs [(2, .ptr 0 0), (10, vU y3.1), (11, vS s1.1), (13, .ptr 1 0), (14, vU s1.2.1)], [.var 25 [vI 0, vS [], vN], .var 25 [vI (IntKind.i64.wrap y1.1), vS y2.1, .row 2 ((List.map encWrite s1.2.2).length)], .row 88 3 (List.map encWrite s1.2.2)]⟩) (Sum.elim (aO .ret (fun _=>⟨122, 0, ofRegs [(2, .ptr 0 0), (3, vI 3)], [.var 25 [vI 0, vS [], vN]]⟩)) (aO (.exit 0) (fun v1=>⟨122, 0, ofRegs [(2, .ptr 0 0), (11, vS v1.1), (13, .ptr 1 0)], [.var 25 [vI 0, vS [], vN], .var 25 [vI (IntKind.i64.wrap y1.1), vS y2.1, .row 2 ((List.map encWrite v1.2).length)], .row 88 3 (List.map encWrite v1.2)]⟩))) (Weak.trans (weak_nilcell 1 2 88 3 rfl rfl) (wF (.s (.cons (.var (.cons (.same rfl) (.cons (.same rfl) (.cons (.same (show (.row 2 0 : AV) = (.row 2 ((List.map encWrite []).length) : AV) from congrArg (AV.row 2) (by simp))) (.nil))))) .rest)) (.all rfl))) ?_ <|bE (bO fun v2 _ h w=>eFw) <|bO fun v1 _ h w=>wk w (go ?_)
 rintro y4 ⟨a1,a2,a3⟩ v3 h r
 replace h : ref07_Take_l2 y3 a1 a2 a3 = some v3 := h
 unfold ref07_Take_l2 at h
 dsimp only
 refine go ?_
 refine cC h rfl (fun c4 h=>go ?_) fun c4 h=>xE
 refine cP h ref01_TakeNum_walk fun y5 h=>gN 1 ?_
 refine k0 ⟨122, 0, ofRegs [(2, .ptr 0 0), (10, vU y3.1), (13, .ptr 1 0), (14, vU a2), (15, vU y5.1), (16, vS y5.2.1), (80, vB ((!(decide (y5.2.2 = 0))) || (decide (y5.1 > 1))))], [.var 25 [vI 0, vS [], vN], .var 25 [vI (IntKind.i64.wrap y1.1), vS y2.1, .row 2 ((List.map encWrite a3).length)], .row 88 3 (List.map encWrite a3)]⟩ (go ?_) ((cC h rfl (fun c5 h=>xE) fun c5 h=>go ?_))
 exact cK (!(decide (y5.2.2 = 0))) (fun i1=>cI) fun i1=>cI
 refine cP h ref01_TakeText_walk fun y6 h=>go ?_
 refine cC h rfl (fun c6 h=>xE) fun c6 h=>go ?_
 refine cP h ref01_TakeText_walk fun y7 h=>go ?_
 refine cC h rfl (fun c7 h=>xE) fun c7 h=>go ?_
 refine ⟨List.map encWrite [({ Key := y6.1, Val := y7.1, Del := (decide (y5.1 = 1)) } : Write)], rfl, rfl, rfl, go ?_⟩
 refine nD h fun p1 h=>⟨by simp only [List.length_map]; exact p1, List.map encWrite (a3 ++ [({ Key := y6.1, Val := y7.1, Del := (decide (y5.1 = 1)) } : Write)]), map_app encWrite _ _ rfl rfl, cN⟩
 refine ⟨rfl, go ?_⟩
 refine cP h ref07_May_walk fun y8 h=>gN 1 ?_
 refine k0 ⟨122, 0, ofRegs [(2, .ptr 0 0), (13, .ptr 1 0), (119, vB ((decide ((v1.1.length : Int) > 0)) || (!y8)))], [.var 25 [vI 0, vS [], vN], .var 25 [vI (IntKind.i64.wrap y1.1), vS y2.1, .row 2 ((List.map encWrite v1.2).length)], .row 88 3 (List.map encWrite v1.2)]⟩ (go ?_) ?_
 refine ⟨(v1.1.length : Int), rfl, go ?_⟩
 exact cK (decide ((v1.1.length : Int) > 0)) (fun i1=>cI) fun i1=>cI
 exact cC h rfl (fun c8 h=>eF) fun c8 h=>eF
def ref08_Open_l2 (y1 : Disk × (List Str) × Int × Int) (a1 : Int) (a2 a3 : (List Pair)) : Option ((Int × (List Pair) × (List Pair)) ⊕ ((Unit) ⊕ ((List Pair) × (List Pair)))) :=
 if (decide (a1 < (y1.2.1.length : Int))) then
 (ix y1.2.1 a1).bind fun x1 =>
 (ref07_Take x1).bind fun y2 =>
 if (!(decide (y2.2 = 0))) then some (.inr (.inl ())) else
 (ref07_Do ({ Data := a2, Toks := a3 } : State) y2.1).bind fun y3 =>
 some (.inl ((IntKind.i64.wrap (a1 + 1)), y3.1.Data, y3.1.Toks))
 else
 some (.inr (.inr (a2, a3)))
def ref08_Open (d : Disk) : Option (Store × Int) :=
 (ref03_Read d [109]).bind fun y1 =>
 (if (decide (y1.2 = 0)) then
 (ref08_TakeManifest y1.1).bind fun y2 =>
 if (!(decide (y2.2.2 = 0))) then some (.inr ()) else
 some (.inl (y2.1, y2.2.1))
 else
 some (.inl (1, 0))).bind fun (y3 : (Int × Int) ⊕ (Unit)) =>
 match y3 with
 | (.inl v1) =>
  (if (decide (v1.2 > 0)) then
  (ref08_RunName v1.2).bind fun y4 =>
  (ref06_Load d y4).bind fun y5 =>
  if (!(decide (y5.2 = 0))) then some (.inr ()) else
  (ref07_Back y5.1).bind fun y6 =>
  if (!(decide (y6.2 = 0))) then some (.inr ()) else
  some (.inl (y6.1.Data, y6.1.Toks))
  else
  some (.inl ([], []))).bind fun (y7 : ((List Pair) × (List Pair)) ⊕ (Unit)) =>
  match y7 with
  | (.inl v2) =>
   (ref04_Recover d v1.1).bind fun y8 =>
   if (!(decide (y8.2.2.2 = 0))) then some (({ D := ({ Files := [], Room := 0, Fuse := 0, Off := false } : Disk), From := 0, Seg := 0, Run := 0, S := ({ Data := [], Toks := [] } : State), Down := false } : Store), y8.2.2.2) else
   (loop (fun (s1 : Int × (List Pair) × (List Pair)) => ref08_Open_l2 y8 s1.1 s1.2.1 s1.2.2) ((0 : Int), v2.1, v2.2)).bind fun (y9 : (Unit) ⊕ ((List Pair) × (List Pair))) =>
   match y9 with
   | (.inl v3) =>
    some (({ D := ({ Files := [], Room := 0, Fuse := 0, Off := false } : Disk), From := 0, Seg := 0, Run := 0, S := ({ Data := [], Toks := [] } : State), Down := false } : Store), 3)
   | (.inr v4) =>
   some (({ D := y8.1, From := v1.1, Seg := y8.2.2.1, Run := v1.2, S := ({ Data := v4.1, Toks := v4.2 } : State), Down := false } : Store), 0)
  | (.inr v5) =>
  some (({ D := ({ Files := [], Room := 0, Fuse := 0, Off := false } : Disk), From := 0, Seg := 0, Run := 0, S := ({ Data := [], Toks := [] } : State), Down := false } : Store), 3)
 | (.inr v6) =>
 some (({ D := ({ Files := [], Room := 0, Fuse := 0, Off := false } : Disk), From := 0, Seg := 0, Run := 0, S := ({ Data := [], Toks := [] } : State), Down := false } : Store), 3)
theorem ref08_Open_walk {d r} (h : ref08_Open d = some r) : pP 19 [.agg (encDisk d)] (.tup [.agg (encStore r.1), vI r.2]) := by
 unfold ref08_Open at h
 refine pW0 Tryz.func19 rfl fun g=>go ?_
 refine cP h ref03_Read_walk fun y1 h=>gN 0 ?_
 refine kS h (Sum.elim (aO .normal (fun v1=>⟨104, 0, ofRegs [(1, .ptr 0 0), (2, .ptr 1 0), (4, vI v1.1), (5, vI v1.2)], [.var 31 (encDisk d), .var 38 [vN, vI 0, vI 0, vB false, vI 0, vI 0, vI 0, vN, vN, vB false]]⟩)) (aO .ret (fun _=>⟨104, 0, ofRegs [(2, .ptr 1 0), (3, vI 3)], [.gone, .var 38 [vN, vI 0, vI 0, vB false, vI 0, vI 0, vI 0, vN, vN, vB false]]⟩))) (fun y2 h=>go ?_) <|bE (bO fun v1 _ h w=>wk w (gN 2 ?_)) <|bO fun v2 _ h w=>eFw
 refine cC h rfl (fun c1 h=>go ?_) fun c1 h=>cE
 refine cP h ref08_TakeManifest_walk fun y3 h=>go ?_
 refine cC h rfl (fun c2 h=>go ?_) fun c2 h=>cE
 cases h
 exact ⟨rfl, (wF (.g .rest) (.all rfl))⟩
 refine kS h (Sum.elim (aO .normal (fun v3=>⟨104, 0, ofRegs [(1, .ptr 0 0), (2, .ptr 1 0), (4, vI v1.1), (5, vI v1.2), (11, .ptr 2 0)], [.var 31 (encDisk d), .var 38 [vN, vI 0, vI 0, vB false, vI 0, vI 0, vI 0, vN, vN, vB false], .var 36 [sL encPair v3.1, sL encPair v3.2]]⟩)) (aO .ret (fun _=>⟨104, 0, ofRegs [(2, .ptr 1 0), (3, vI 3)], [.gone, .var 38 [vN, vI 0, vI 0, vB false, vI 0, vI 0, vI 0, vN, vN, vB false]]⟩))) (fun y4 h=>go ?_) <|bE (bO fun v3 _ h w=>wk w (go ?_)) <|bO fun v4 _ h w=>eFw
 refine cC h rfl (fun c3 h=>go ?_) fun c3 h=>go ?_
 refine Draw.one 9 (.take 0 (.take 1 (.alt 2 (.alt 3 (.take 4 (.take 5 (.take 6 (.take 7 (.take 8 (.fin)))))) (.nil)) (.nil)))) [] (by kernel_rfl) ⟨go ?_, ⟨⟩⟩
 refine cP h ref08_RunName_walk fun y5 h=>⟨go ?_, ⟨⟩⟩
 refine cP h ref06_Load_walk fun y6 h=>go ?_
 refine cC h rfl (fun c4 h=>go ?_) fun c4 h=>go ?_
 cases h
 exact ⟨rfl, (wF (.g .rest) (.all rfl))⟩
 refine cP h ref07_Back_walk fun y7 h=>go ?_
 refine cC h rfl (fun c5 h=>go ?_) fun c5 h=>cE
 cases h
 exact ⟨rfl, (wF (.g .rest) (.all rfl))⟩
 cases h
 exact ⟨rfl, (wF (.s (.s (.cons (.var (.cons (.nil) (.cons (.nil) (.nil)))) .rest))) (.all rfl))⟩
 refine cP h ref04_Recover_walk fun y8 h=>go ?_
 refine cC h rfl (fun c6 h=>eF) fun c6 h=>go ?_
 refine lQ h (fun s1=>⟨104, 0, ofRegs [(2, .ptr 1 0), (4, vI v1.1), (5, vI v1.2), (11, .ptr 2 0), (16, .ptr 3 0), (17, sL encS y8.2.1), (18, vI y8.2.2.1), (20, vI s1.1)], [.gone, .var 38 [vN, vI 0, vI 0, vB false, vI 0, vI 0, vI 0, vN, vN, vB false], .var 36 [sL encPair s1.2.1, sL encPair s1.2.2], .var 31 (encDisk y8.1)]⟩) (Sum.elim (aO .ret (fun _=>⟨104, 0, ofRegs [(2, .ptr 1 0), (3, vI 3)], [.gone, .var 38 [vN, vI 0, vI 0, vB false, vI 0, vI 0, vI 0, vN, vN, vB false]]⟩)) (aO (.exit 0) (fun v5=>⟨104, 0, ofRegs [(2, .ptr 1 0), (4, vI v1.1), (5, vI v1.2), (11, .ptr 2 0), (16, .ptr 3 0), (18, vI y8.2.2.1)], [.gone, .var 38 [vN, vI 0, vI 0, vB false, vI 0, vI 0, vI 0, vN, vN, vB false], .var 36 [sL encPair v5.1, sL encPair v5.2], .var 31 (encDisk y8.1)]⟩))) (wF (.g .rest) (.all rfl)) ?_ <|bE (bO fun v6 _ h w=>eFw) <|bO fun v5 _ h w=>wk w eF
 rintro y9 ⟨a1,a2,a3⟩ v7 h r
 replace h : ref08_Open_l2 y8 a1 a2 a3 = some v7 := h
 unfold ref08_Open_l2 at h
 dsimp only
 refine go ?_
 refine ⟨_, (len_map _ _).symm, go ?_⟩
 refine cC h rfl (fun c7 h=>go ?_) fun c7 h=>xE
 refine bD h fun x1 q1 h=>⟨(ix_some q1).1, _, map_get encS (ix_some q1).2, rfl, go ?_⟩
 refine cP h ref07_Take_walk fun y10 h=>go ?_
 refine cC h rfl (fun c8 h=>xE) fun c8 h=>go ?_
 exact cP h ref07_Do_walk fun y11 h=>cN
def kv_Manifest (from_ run : Int) : Option (Str) :=
 (dec_Num (IntKind.u64.wrap (if from_ < 0 then 0 else from_))).bind fun y1 =>
 (dec_Num (IntKind.u64.wrap (if run < 0 then 0 else run))).bind fun y2 =>
 need (y1.length + y2.length ≤ 9223372036854775807) <|
 (sum_Seal (y1 ++ y2)).bind fun y4 =>
 some y4
theorem kv_Manifest_walk {from_ run r} (h : kv_Manifest from_ run = some r) : pP 24 [vI from_, vI run] (vS r) := by
 unfold kv_Manifest at h
 refine pW0 Tryz.func24 rfl fun g=>go ?_
 refine ⟨(IntKind.u64.wrap (if from_ < 0 then 0 else from_)), rfl, go ?_⟩
 refine cP h dec_Num_walk fun y1 h=>⟨(IntKind.u64.wrap (if run < 0 then 0 else run)), rfl, go ?_⟩
 refine cP h dec_Num_walk fun y2 h=>go ?_
 refine nD h fun p1 h=>⟨p1, _, bs_append _ _, go ?_⟩
 exact cP h sum_Seal_walk fun y4 h=>eF
def ref01_Text (t : Str) : Option (Str) :=
 (ref01_Num (IntKind.u64.wrap (t.length : Int))).bind fun y1 =>
 need (y1.length + t.length ≤ 9223372036854775807) <|
 some (y1 ++ t)
theorem ref01_Text_walk {t r} (h : ref01_Text t = some r) : pP 119 [vS t] (vS r) := by
 unfold ref01_Text at h
 refine pW0 Tryz.func119 rfl fun g=>go ?_
 refine ⟨(t.length : Int), rfl, (IntKind.u64.wrap (t.length : Int)), rfl, go ?_⟩
 refine cP h ref01_Num_walk fun y1 h=>go ?_
 refine nD h fun p1 h=>⟨p1, _, bs_append _ _, eF⟩
def ref02_Seal (s : Str) : Option (Str) :=
 (ref01_Text s).bind fun y1 =>
 (ref02_Of s).bind fun y2 =>
 (ref01_Num (IntKind.u64.wrap y2)).bind fun y4 =>
 need (y1.length + y4.length ≤ 9223372036854775807) <|
 some (y1 ++ y4)
theorem ref02_Seal_walk {s r} (h : ref02_Seal s = some r) : pP 67 [vS s] (vS r) := by
 unfold ref02_Seal at h
 refine pW0 Tryz.func67 rfl fun g=>go ?_
 refine cP h ref01_Text_walk fun y1 h=>go ?_
 refine cP h ref02_Of_walk fun y2 h=>⟨(IntKind.u64.wrap y2), rfl, go ?_⟩
 refine cP h ref01_Num_walk fun y4 h=>go ?_
 refine nD h fun p1 h=>⟨p1, _, bs_append _ _, eF⟩
def ref08_Manifest (from_ run : Int) : Option (Str) :=
 (ref01_Num (IntKind.u64.wrap (if (decide (from_ < 0)) then 0 else from_))).bind fun y1 =>
 (ref01_Num (IntKind.u64.wrap (if (decide (run < 0)) then 0 else run))).bind fun y2 =>
 need (y1.length + y2.length ≤ 9223372036854775807) <|
 (ref02_Seal (y1 ++ y2)).bind fun y3 =>
 some y3
theorem ref08_Manifest_walk {from_ run r} (h : ref08_Manifest from_ run = some r) : pP 25 [vI from_, vI run] (vS r) := by
 unfold ref08_Manifest at h
 refine pW0 Tryz.func25 rfl fun g=>gN 2 ?_
 refine k0 ⟨17, 0, ofRegs [(0, vI (if (decide (from_ < 0)) then 0 else from_)), (1, vI run)], []⟩ (go ?_) ((k0 ⟨17, 0, ofRegs [(0, vI (if (decide (from_ < 0)) then 0 else from_)), (1, vI (if (decide (run < 0)) then 0 else run))], []⟩ (go ?_) (go ?_)))
 exact cD (decide (from_ < 0)) rfl (fun i1=>cI) fun i1=>cI
 exact cD (decide (run < 0)) rfl (fun i1=>cI) fun i1=>cI
 refine ⟨(IntKind.u64.wrap (if (decide (from_ < 0)) then 0 else from_)), rfl, go ?_⟩
 refine cP h ref01_Num_walk fun y1 h=>⟨(IntKind.u64.wrap (if (decide (run < 0)) then 0 else run)), rfl, go ?_⟩
 refine cP h ref01_Num_walk fun y2 h=>go ?_
 refine nD h fun p1 h=>⟨p1, _, bs_append _ _, go ?_⟩
 exact cP h ref02_Seal_walk fun y3 h=>eF
def law08_KvOpens (with_ : KvOpensIn) : Option (Bool) :=
 law08_shown.bind fun y1 =>
 (kv_Open with_.D).bind fun y2 =>
 (ref08_Open with_.D).bind fun y4 =>
 (ref08_Same y2.1 y4.1).bind fun y6 =>
 (kv_TakeManifest with_.S).bind fun y8 =>
 (ref08_TakeManifest with_.S).bind fun y10 =>
 if y1 then
 if y6 then
 if (decide (y2.2 = y4.2)) then
 (kv_RunName with_.Run).bind fun y12 =>
 (ref08_RunName with_.Run).bind fun y13 =>
 if (decide (y12 = y13)) then
 (kv_Manifest with_.From with_.Run).bind fun y14 =>
 (ref08_Manifest with_.From with_.Run).bind fun y15 =>
 if (decide (y14 = y15)) then
 if (decide (y8.1 = y10.1)) then
 if (decide (y8.2.1 = y10.2.1)) then some (decide (y8.2.2 = y10.2.2)) else
 some false
 else
 some false
 else
 some false
 else
 some false
 else
 some false
 else
 some false
 else
 some false
theorem law08_KvOpens_walk {with_ r} (h : law08_KvOpens with_ = some r) : pP 5 [.agg (encKvOpensIn with_)] (vB r) := by
 unfold law08_KvOpens at h
 refine pW0 Tryz.func5 rfl fun g=>go ?_
 refine cP h law08_shown_walk fun y1 h=>go ?_
 refine cP h kv_Open_walk fun y2 h=>go ?_
 refine cP h ref08_Open_walk fun y4 h=>go ?_
 refine cP h ref08_Same_walk fun y6 h=>go ?_
 refine cP h kv_TakeManifest_walk fun y8 h=>go ?_
 refine cP h ref08_TakeManifest_walk fun y10 h=>go ?_
 refine cM h (fun c1 h=>go ?_) fun c1 h=>eF
 refine cM h (fun c2 h=>go ?_) fun c2 h=>eF
 refine cM h (fun c3 h=>go ?_) fun c3 h=>eF
 refine cP h kv_RunName_walk fun y12 h=>go ?_
 refine cP h ref08_RunName_walk fun y13 h=>⟨_, bs_eq _ _, go ?_⟩
 refine cM h (fun c4 h=>go ?_) fun c4 h=>eF
 refine cP h kv_Manifest_walk fun y14 h=>go ?_
 refine cP h ref08_Manifest_walk fun y15 h=>⟨_, bs_eq _ _, go ?_⟩
 refine cM h (fun c5 h=>go ?_) fun c5 h=>eF
 refine cM h (fun c6 h=>go ?_) fun c6 h=>eF
 exact cM h (fun c7 h=>eF) fun c7 h=>eF
def batch_Pairs_l2 (s : State) (a1 : Int) (a2 : (List Pair)) : Option ((Int × (List Pair)) ⊕ ((List Pair))) :=
 if (decide (a1 < (s.Data.length : Int))) then
 (ix s.Data a1).bind fun x1 =>
 need (([100] : Str).length + x1.Key.length ≤ 9223372036854775807) <|
 need ((a2.length + 1) * 32 ≤ 140737488355328) <|
 some (.inl ((IntKind.i64.wrap (a1 + 1)), (a2 ++ [({ Key := ([100] ++ x1.Key), Val := x1.Val } : Pair)])))
 else
 some (.inr a2)
def batch_Pairs_l4 (s : State) (a1 : Int) (a2 : (List Pair)) : Option ((Int × (List Pair)) ⊕ ((List Pair))) :=
 if (decide (a1 < (s.Toks.length : Int))) then
 (ix s.Toks a1).bind fun x1 =>
 need (([116] : Str).length + x1.Key.length ≤ 9223372036854775807) <|
 need ((a2.length + 1) * 32 ≤ 140737488355328) <|
 some (.inl ((IntKind.i64.wrap (a1 + 1)), (a2 ++ [({ Key := ([116] ++ x1.Key), Val := x1.Val } : Pair)])))
 else
 some (.inr a2)
def batch_Pairs (s : State) : Option ((List Pair)) :=
 (loop (fun (s1 : Int × (List Pair)) => batch_Pairs_l2 s s1.1 s1.2) ((0 : Int), ([] : (List Pair)))).bind fun (y1 : (List Pair)) =>
 (loop (fun (s2 : Int × (List Pair)) => batch_Pairs_l4 s s2.1 s2.2) ((0 : Int), y1)).bind fun (y2 : (List Pair)) =>
 some y2
theorem batch_Pairs_walk {s r} (h : batch_Pairs s = some r) : pP 69 [.agg (encState s)] (sL encPair r) := by
 unfold batch_Pairs at h
 refine pW0 Tryz.func69 rfl fun g=>go ?_
 refine ⟨_, (len_map _ _).symm, go ?_⟩
 refine lQ h (fun s1=>⟨43, 0, ofRegs [(1, .ptr 0 0), (3, .row 1 ((List.map encPair s1.2).length)), (9, sL encPair s.Data), (10, vI (s.Data.length : Int)), (11, vI s1.1)], [.var 36 (encState s), .row 90 2 (List.map encPair s1.2)]⟩) (aO (.exit 0) (fun y1=>⟨43, 0, ofRegs [(1, .ptr 0 0), (3, .row 1 ((List.map encPair y1).length))], [.var 36 (encState s), .row 90 2 (List.map encPair y1)]⟩)) (Weak.trans (weak_nil 3 90 2 rfl) wI) ?_ <|bO fun y1 _ h w=>wk w (go ?_)
 rintro y1 ⟨a1,a2⟩ v1 h r
 replace h : batch_Pairs_l2 s a1 a2 = some v1 := h
 unfold batch_Pairs_l2 at h
 dsimp only
 refine go ?_
 refine cC h rfl (fun c1 h=>go ?_) fun c1 h=>xE
 refine bD h fun x1 q1 h=>⟨(ix_some q1).1, _, map_get encPair (ix_some q1).2, rfl, go ?_⟩
 refine nD h fun p1 h=>⟨p1, _, bs_append _ _, List.map encPair [({ Key := ([100] ++ x1.Key), Val := x1.Val } : Pair)], rfl, rfl, rfl, go ?_⟩
 refine nD h fun p2 h=>⟨by simp only [List.length_map]; exact p2, List.map encPair (a2 ++ [({ Key := ([100] ++ x1.Key), Val := x1.Val } : Pair)]), map_app encPair _ _ rfl rfl, cN⟩
 refine ⟨_, (len_map _ _).symm, go ?_⟩
 refine lQ h (fun s2=>⟨43, 0, ofRegs [(3, .row 1 ((List.map encPair s2.2).length)), (26, sL encPair s.Toks), (27, vI (s.Toks.length : Int)), (28, vI s2.1)], [.gone, .row 90 2 (List.map encPair s2.2)]⟩) (aO (.exit 2) (fun y2=>⟨43, 0, ofRegs [(3, .row 1 ((List.map encPair y2).length))], [.gone, .row 90 2 (List.map encPair y2)]⟩)) (wF (.g .rest) (.all rfl)) ?_ <|bO fun y2 _ h w=>wk w eF
 rintro y2 ⟨a3,a4⟩ v2 h r
 replace h : batch_Pairs_l4 s a3 a4 = some v2 := h
 unfold batch_Pairs_l4 at h
 dsimp only
 refine go ?_
 refine cC h rfl (fun c2 h=>go ?_) fun c2 h=>xE
 refine bD h fun x2 q2 h=>⟨(ix_some q2).1, _, map_get encPair (ix_some q2).2, rfl, go ?_⟩
 refine nD h fun p3 h=>⟨p3, _, bs_append _ _, List.map encPair [({ Key := ([116] ++ x2.Key), Val := x2.Val } : Pair)], rfl, rfl, rfl, go ?_⟩
 refine nD h fun p4 h=>⟨by simp only [List.length_map]; exact p4, List.map encPair (a4 ++ [({ Key := ([116] ++ x2.Key), Val := x2.Val } : Pair)]), map_app encPair _ _ rfl rfl, cN⟩
def run_Bytes_l2 (l : (List Pair)) (a1 : Int) (a2 : Str) : Option ((Int × Str) ⊕ (Str)) :=
 if (decide (a1 < (l.length : Int))) then
 (ix l a1).bind fun x1 =>
 (dec_Text x1.Key).bind fun y1 =>
 (dec_Text x1.Val).bind fun y2 =>
 need (y1.length + y2.length ≤ 9223372036854775807) <|
 need (0 < (y1 ++ y2).length ∧ a2.length + (y1 ++ y2).length ≤ 140737488355328) <|
 some (.inl ((IntKind.i64.wrap (a1 + 1)), (a2 ++ (y1 ++ y2))))
 else
 some (.inr a2)
def run_Bytes (l : (List Pair)) : Option (Str × Int) :=
 (run_may l).bind fun y1 =>
 if (!y1) then some ([], 1) else
 (dec_Num (IntKind.u64.wrap (l.length : Int))).bind fun y2 =>
 need (0 < y2.length ∧ ([] : Str).length + y2.length ≤ 140737488355328) <|
 (loop (fun (s1 : Int × Str) => run_Bytes_l2 l s1.1 s1.2) ((0 : Int), (([] : Str) ++ y2))).bind fun (y3 : Str) =>
 need (0 < y3.length) <|
 (sum_Seal y3).bind fun y5 =>
 some (y5, 0)
theorem run_Bytes_walk {l r} (h : run_Bytes l = some r) : pP 68 [sL encPair l] (.tup [vS r.1, vI r.2]) := by
 unfold run_Bytes at h
 refine pW (G := ⟨tys, [98, 100], [], []⟩) tyOk mixed Tryz.func68 rfl fun g=>go ?_
 refine cP h run_may_walk fun y1 h=>go ?_
 refine cC h rfl (fun c1 h=>eF) fun c1 h=>gN 4 ?_
 refine Tri.weak (show Weak _ ⟨32, 0, ofRegs [(0, sL encPair l), (2, vS []), (3, vI 0), (4, .ptr 0 0), (7, sL encPair l), (8, vB y1), (9, vB false)], [.var 171 [.v (.pointer none), .row 1 ((List.map byteU ([] : Str)).length)], .row 5 1 (List.map byteU ([] : Str))]⟩ from Weak.trans (weak_nilcell 0 1 5 1 rfl rfl) wA) (go ?_)
 refine ⟨_, (len_map _ _).symm, (IntKind.u64.wrap (l.length : Int)), rfl, go ?_⟩
 refine cP h dec_Num_walk fun y2 h=>go ?_
 obtain ⟨p1,h⟩ := need_some h
 refine mC (bwrite_98 (.inl rfl) ([] : Str) y2 p1) [0, 1] (go ?_)
 refine ⟨_, (len_map _ _).symm, go ?_⟩
 refine lQ h (fun s1=>⟨32, 0, ofRegs [(4, .ptr 0 0), (15, sL encPair l), (16, vI (l.length : Int)), (17, vI s1.1)], [.var 171 [.ptr 0 0, .row 1 ((List.map byteU s1.2).length)], .row 5 1 (List.map byteU s1.2)]⟩) (aO (.exit 0) (fun y3=>⟨32, 0, ofRegs [(4, .ptr 0 0)], [.var 171 [.ptr 0 0, .row 1 ((List.map byteU y3).length)], .row 5 1 (List.map byteU y3)]⟩)) wA ?_ <|bO fun y3 _ h w=>wk w (go ?_)
 rintro y3 ⟨a1,a2⟩ v1 h r
 replace h : run_Bytes_l2 l a1 a2 = some v1 := h
 unfold run_Bytes_l2 at h
 dsimp only
 refine go ?_
 refine cC h rfl (fun c2 h=>go ?_) fun c2 h=>xE
 refine bD h fun x1 q1 h=>⟨(ix_some q1).1, _, map_get encPair (ix_some q1).2, rfl, go ?_⟩
 refine Draw.one 8 (.take 0 (.take 1 (.take 3 (.take 4 (.alt 2 (.alt 5 (.take 6 (.alt 7 (.fin) (.nil))) (.nil)) (.nil)))))) [0] (by kernel_rfl) ⟨go ?_, ⟨⟩⟩
 refine cP h dec_Text_walk fun y5 h=>⟨go ?_, ⟨⟩⟩
 refine cP h dec_Text_walk fun y6 h=>go ?_
 refine nD h fun p2 h=>⟨p2, _, bs_append _ _, go ?_, ⟨⟩⟩
 obtain ⟨p3,h⟩ := need_some h
 exact mC (bwrite_98 (.inr rfl) a2 (y5 ++ y6) p3) [0, 1] cN
 obtain ⟨p4,h⟩ := need_some h
 refine mC (bstr_100 (.ptr 0 0) y3 p4) [0, 1] (go ?_)
 exact cP h sum_Seal_walk fun y8 h=>eF
def run_Lay (d : Disk) (name s : Str) : Option (Disk × Int) :=
 need (([110, 46] : Str).length + name.length ≤ 9223372036854775807) <|
 ((disk_Find d ([110, 46] ++ name)).bind fun y1 =>
 if y1.2 then
 (disk_Delete d ([110, 46] ++ name)).bind fun y2 =>
 if (!(decide (y2.2 = 0))) then some (.inr (y2.2, y2.1.Files, y2.1.Room, y2.1.Fuse, y2.1.Off)) else
 some (.inl (y2.1.Files, y2.1.Room, y2.1.Fuse, y2.1.Off))
 else
 some (.inl (d.Files, d.Room, d.Fuse, d.Off))).bind fun (y3 : ((List File) × Int × Int × Bool) ⊕ (Int × (List File) × Int × Int × Bool)) =>
 match y3 with
 | (.inl v1) =>
  (disk_Append ({ Files := v1.1, Room := v1.2.1, Fuse := v1.2.2.1, Off := v1.2.2.2 } : Disk) ([110, 46] ++ name) s).bind fun y4 =>
  if (!(decide (y4.2 = 0))) then some (y4.1, y4.2) else
  (disk_Sync y4.1 ([110, 46] ++ name)).bind fun y5 =>
  if (!(decide (y5.2 = 0))) then some (y5.1, y5.2) else
  (disk_Rename y5.1 ([110, 46] ++ name) name).bind fun y6 =>
  some (y6.1, y6.2)
 | (.inr v2) =>
 some (({ Files := v2.2.1, Room := v2.2.2.1, Fuse := v2.2.2.2.1, Off := v2.2.2.2.2 } : Disk), v2.1)
theorem run_Lay_walk {d name s r} (h : run_Lay d name s = some r) : pP 70 [.agg (encDisk d), vS name, vS s] (.tup [.agg (encDisk r.1), vI r.2]) := by
 unfold run_Lay at h
 refine pW0 Tryz.func70 rfl fun g=>go ?_
 refine nD h fun p1 h=>⟨p1, _, bs_append _ _, gN 0 ?_⟩
 refine kS h (Sum.elim (aO .normal (fun v1=>⟨61, 0, ofRegs [(1, vS name), (2, vS s), (3, .ptr 0 0), (6, .ptr 1 0), (8, vS ([110, 46] ++ name))], [.var 31 [sL encFile v1.1, vI v1.2.1, vI v1.2.2.1, vB v1.2.2.2], .var 31 [vN, vI 0, vI 0, vB false]]⟩)) (aO .ret (fun v2=>⟨61, 0, ofRegs [(6, .ptr 1 0), (7, vI v2.1)], [.gone, .var 31 [sL encFile v2.2.1, vI v2.2.2.1, vI v2.2.2.2.1, vB v2.2.2.2.2]]⟩))) (fun y1 h=>go ?_) <|bE (bO fun v1 _ h w=>wk w (go ?_)) <|bO fun v2 _ h w=>eFw
 refine cP h disk_Find_walk fun y2 h=>go ?_
 refine cC h rfl (fun c1 h=>go ?_) fun c1 h=>cE
 refine cP h disk_Delete_walk fun y3 h=>go ?_
 refine cC h rfl (fun c2 h=>go ?_) fun c2 h=>cE
 cases h
 exact ⟨rfl, (wF (.g .rest) (.all rfl))⟩
 refine cP h disk_Append_walk fun y4 h=>go ?_
 refine cC h rfl (fun c3 h=>eF) fun c3 h=>go ?_
 refine cP h disk_Sync_walk fun y5 h=>go ?_
 refine cC h rfl (fun c4 h=>eF) fun c4 h=>go ?_
 exact cP h disk_Rename_walk fun y6 h=>eF
def wal_Drop_l2 (to a1 : Int) (a2 : (List File)) (a3 a4 : Int) (a5 : Bool) : Option ((Int × (List File) × Int × Int × Bool) ⊕ ((Int × (List File) × Int × Int × Bool) ⊕ ((List File) × Int × Int × Bool))) :=
 (if (decide (a1 < to)) then
 (wal_may a1).bind fun y1 =>
 some y1
 else
 some false).bind fun (y2 : Bool) =>
 if y2 then
 ((wal_Name a1).bind fun y3 =>
 (disk_Find ({ Files := a2, Room := a3, Fuse := a4, Off := a5 } : Disk) y3).bind fun y4 =>
 if (!y4.2) then some (.inl (a2, a3, a4, a5)) else
 (disk_Delete ({ Files := a2, Room := a3, Fuse := a4, Off := a5 } : Disk) y3).bind fun y5 =>
 if (!(decide (y5.2 = 0))) then some (.inr (y5.2, y5.1.Files, y5.1.Room, y5.1.Fuse, y5.1.Off)) else
 some (.inl (y5.1.Files, y5.1.Room, y5.1.Fuse, y5.1.Off))).bind fun (y6 : ((List File) × Int × Int × Bool) ⊕ (Int × (List File) × Int × Int × Bool)) =>
 match y6 with
 | (.inl v1) =>
  some (.inl ((IntKind.i64.wrap (a1 + 1)), v1.1, v1.2.1, v1.2.2.1, v1.2.2.2))
 | (.inr v2) =>
 some (.inr (.inl (v2.1, v2.2.1, v2.2.2.1, v2.2.2.2.1, v2.2.2.2.2)))
 else
 some (.inr (.inr (a2, a3, a4, a5)))
def wal_Drop (d : Disk) (from_ to : Int) : Option (Disk × Int) :=
 (loop (fun (s1 : Int × (List File) × Int × Int × Bool) => wal_Drop_l2 to s1.1 s1.2.1 s1.2.2.1 s1.2.2.2.1 s1.2.2.2.2) ((if from_ < 1 then 1 else from_), d.Files, d.Room, d.Fuse, d.Off)).bind fun (y1 : (Int × (List File) × Int × Int × Bool) ⊕ ((List File) × Int × Int × Bool)) =>
 match y1 with
 | (.inl v1) =>
  some (({ Files := v1.2.1, Room := v1.2.2.1, Fuse := v1.2.2.2.1, Off := v1.2.2.2.2 } : Disk), v1.1)
 | (.inr v2) =>
 some (({ Files := v2.1, Room := v2.2.1, Fuse := v2.2.2.1, Off := v2.2.2.2 } : Disk), 0)
theorem wal_Drop_walk {d from_ to r} (h : wal_Drop d from_ to = some r) : pP 123 [.agg (encDisk d), vI from_, vI to] (.tup [.agg (encDisk r.1), vI r.2]) := by
 unfold wal_Drop at h
 refine pW0 Tryz.func123 rfl fun g=>go ?_
 refine lQ h (fun s1=>⟨46, 0, ofRegs [(2, vI to), (3, .ptr 0 0), (6, .ptr 1 0), (8, vI s1.1)], [.var 31 [sL encFile s1.2.1, vI s1.2.2.1, vI s1.2.2.2.1, vB s1.2.2.2.2], .var 31 [vN, vI 0, vI 0, vB false]]⟩) (Sum.elim (aO .ret (fun v1=>⟨46, 0, ofRegs [(6, .ptr 1 0), (7, vI v1.1)], [.gone, .var 31 [sL encFile v1.2.1, vI v1.2.2.1, vI v1.2.2.2.1, vB v1.2.2.2.2]]⟩)) (aO (.exit 0) (fun v2=>⟨46, 0, ofRegs [(3, .ptr 0 0), (6, .ptr 1 0)], [.var 31 [sL encFile v2.1, vI v2.2.1, vI v2.2.2.1, vB v2.2.2.2], .var 31 [vN, vI 0, vI 0, vB false]]⟩))) wA ?_ <|bE (bO fun v1 _ h w=>eFw) <|bO fun v2 _ h w=>wk w eF
 rintro y1 ⟨a1,a2,a3,a4,a5⟩ v3 h r
 replace h : wal_Drop_l2 to a1 a2 a3 a4 a5 = some v3 := h
 unfold wal_Drop_l2 at h
 dsimp only
 refine gN 1 ?_
 refine k1 h (fun y2=>⟨46, 0, ofRegs [(2, vI to), (3, .ptr 0 0), (6, .ptr 1 0), (8, vI a1), (21, vB y2)], [.var 31 [sL encFile a2, vI a3, vI a4, vB a5], .var 31 [vN, vI 0, vI 0, vB false]]⟩) (fun y2 h=>go ?_) fun y2 h=>(cC h rfl (fun c1 h=>gN 1 ?_) fun c1 h=>xE)
 refine cM h (fun c2 h=>go ?_) fun c2 h=>cE
 exact cP h wal_may_walk fun y3 h=>cE
 refine kS h (Sum.elim (aO .normal (fun v4=>⟨46, 0, ofRegs [(2, vI to), (3, .ptr 0 0), (6, .ptr 1 0), (8, vI a1)], [.var 31 [sL encFile v4.1, vI v4.2.1, vI v4.2.2.1, vB v4.2.2.2], .var 31 [vN, vI 0, vI 0, vB false]]⟩)) (aO .ret (fun v5=>⟨46, 0, ofRegs [(6, .ptr 1 0), (7, vI v5.1)], [.gone, .var 31 [sL encFile v5.2.1, vI v5.2.2.1, vI v5.2.2.2.1, vB v5.2.2.2.2]]⟩))) (fun y4 h=>go ?_) <|bE (bO fun v4 _ h w=>wk w cN) <|bO fun v5 _ h w=>xEw
 obtain ⟨y5,q1,h⟩ := bind_some h
 obtain ⟨y6,q2,h⟩ := bind_some h
 refine Draw.many 9 (.take 0 (.take 1 (.alt 2 (.alt 3 (.take 4 (.take 5 (.take 6 (.alt 7 (.alt 8 (.fin) (.nil)) (.nil))))) (.alt 7 (.alt 3 (.take 4 (.take 5 (.take 6 (.alt 8 (.fin) (.nil))))) (.nil)) (.nil))) (.alt 7 (.alt 2 (.alt 3 (.take 4 (.take 5 (.take 6 (.alt 8 (.fin) (.nil))))) (.nil)) (.nil)) (.nil))))) [2, 3, 4, 5, 6, 7] (⟨46, 0, ofRegs [(2, vI to), (3, .ptr 0 0), (6, .ptr 1 0), (8, vI a1), (30, vB y6.2)], [.var 31 [sL encFile a2, vI a3, vI a4, vB a5], .var 31 [vN, vI 0, vI 0, vB false]]⟩) (by kernel_rfl) ⟨go ?_, ⟨⟨go ?_, ⟨⟩⟩, ⟨⟩⟩⟩ (go ?_)
 refine mP (wal_Name_walk q1) ⟨go ?_, ⟨⟨go ?_, ⟨⟩⟩, ⟨⟩⟩⟩
 exact mP (disk_Find_walk q2) ⟨⟨cA, ⟨⟩⟩, ⟨⟩⟩
 exact mP (disk_Find_walk q2) ⟨cA, ⟨⟩⟩
 refine mP (wal_Name_walk q1) ⟨go ?_, ⟨⟩⟩
 exact mP (disk_Find_walk q2) ⟨cA, ⟨⟩⟩
 refine cC h rfl (fun c3 h=>cE) fun c3 h=>go ?_
 obtain ⟨y7,q3,h⟩ := bind_some h
 refine Draw.many 9 (.take 0 (.take 1 (.alt 2 (.alt 3 (.take 4 (.take 5 (.take 6 (.alt 7 (.alt 8 (.fin) (.nil)) (.nil))))) (.alt 7 (.alt 3 (.take 4 (.take 5 (.take 6 (.alt 8 (.fin) (.nil))))) (.nil)) (.nil))) (.alt 7 (.alt 2 (.alt 3 (.take 4 (.take 5 (.take 6 (.alt 8 (.fin) (.nil))))) (.nil)) (.nil)) (.nil))))) [2, 3, 4, 5, 6, 7] (⟨46, 0, ofRegs [(2, vI to), (3, .ptr 0 0), (6, .ptr 1 0), (8, vI a1), (11, .ptr 2 0), (39, vI y7.2)], [.var 31 [sL encFile a2, vI a3, vI a4, vB a5], .var 31 [vN, vI 0, vI 0, vB false], .var 31 (encDisk y7.1)]⟩) (by kernel_rfl) ⟨go ?_, ⟨⟨go ?_, ⟨⟩⟩, ⟨⟩⟩⟩ (go ?_)
 refine mP (wal_Name_walk q1) ⟨go ?_, ⟨⟨go ?_, ⟨⟩⟩, ⟨⟩⟩⟩
 exact mP (disk_Delete_walk q3) ⟨⟨cA, ⟨⟩⟩, ⟨⟩⟩
 exact mP (disk_Delete_walk q3) ⟨cA, ⟨⟩⟩
 refine mP (wal_Name_walk q1) ⟨go ?_, ⟨⟩⟩
 exact mP (disk_Delete_walk q3) ⟨cA, ⟨⟩⟩
 refine cC h rfl (fun c4 h=>go ?_) fun c4 h=>cE
 cases h
 exact ⟨rfl, (wF (.g .rest) (.all rfl))⟩
def kv_old (x : Store) (from_ : Int) : Option ((Store) ⊕ (Store × Int) ⊕ (Store × Int)) :=
 (kv_RunName (IntKind.i64.wrap (x.Run - 1))).bind fun y1 =>
 ((disk_Find x.D y1).bind fun y2 =>
 if y2.2 then
 (disk_Delete x.D y1).bind fun y3 =>
 if (!(decide (y3.2 = 0))) then
 (kv_fails y3.2).bind fun y4 =>
 match y4 with
 | (.inl y5) =>
  some (.inr (.inl (y3.1.Files, y3.1.Room, y3.1.Fuse, y3.1.Off)))
 | (.inr (.inl y6)) =>
  some (.inr (.inr (.inl (y6, y3.1.Files, y3.1.Room, y3.1.Fuse, y3.1.Off))))
 | (.inr (.inr y7)) =>
 some (.inr (.inr (.inr (y7, y3.1.Files, y3.1.Room, y3.1.Fuse, y3.1.Off))))
 else
 some (.inl (y3.1.Files, y3.1.Room, y3.1.Fuse, y3.1.Off))
 else
 some (.inl (x.D.Files, x.D.Room, x.D.Fuse, x.D.Off))).bind fun (y8 : ((List File) × Int × Int × Bool) ⊕ ((List File) × Int × Int × Bool) ⊕ (Int × (List File) × Int × Int × Bool) ⊕ (Int × (List File) × Int × Int × Bool)) =>
 match y8 with
 | (.inl v1) =>
  (wal_Drop ({ Files := v1.1, Room := v1.2.1, Fuse := v1.2.2.1, Off := v1.2.2.2 } : Disk) from_ x.From).bind fun y9 =>
  (kv_fails y9.2).bind fun y10 =>
  match y10 with
  | (.inl y11) =>
   some (.inl ({ D := y9.1, From := x.From, Seg := x.Seg, Run := x.Run, S := x.S, Down := x.Down } : Store))
  | (.inr (.inl y12)) =>
   some (.inr (.inl (({ D := y9.1, From := x.From, Seg := x.Seg, Run := x.Run, S := x.S, Down := x.Down } : Store), y12)))
  | (.inr (.inr y13)) =>
  some (.inr (.inr (({ D := y9.1, From := x.From, Seg := x.Seg, Run := x.Run, S := x.S, Down := x.Down } : Store), y13)))
 | (.inr (.inl v2)) =>
  some (.inl ({ D := ({ Files := v2.1, Room := v2.2.1, Fuse := v2.2.2.1, Off := v2.2.2.2 } : Disk), From := x.From, Seg := x.Seg, Run := x.Run, S := x.S, Down := x.Down } : Store))
 | (.inr (.inr (.inl v3))) =>
  some (.inr (.inl (({ D := ({ Files := v3.2.1, Room := v3.2.2.1, Fuse := v3.2.2.2.1, Off := v3.2.2.2.2 } : Disk), From := x.From, Seg := x.Seg, Run := x.Run, S := x.S, Down := x.Down } : Store), v3.1)))
 | (.inr (.inr (.inr v4))) =>
 some (.inr (.inr (({ D := ({ Files := v4.2.1, Room := v4.2.2.1, Fuse := v4.2.2.2.1, Off := v4.2.2.2.2 } : Disk), From := x.From, Seg := x.Seg, Run := x.Run, S := x.S, Down := x.Down } : Store), v4.1)))
theorem kv_old_walk {x from_ r} (h : kv_old x from_ = some r) : PureP Tryz.prog 71 [.agg (encStore x), vI from_] (fun a => match r with | (.inl r) => a = .tup [.agg (encStore r), .v .nilIface] | (.inr (.inl r)) => a = .tup [.agg (encStore r.1), .ifc 180 (.agg [vI r.2, .ifc 178 (.agg [])])] | (.inr (.inr r)) => a = .tup [.agg (encStore r.1), .ifc 180 (.agg [vI r.2, .v .nilIface])]) := by
 unfold kv_old at h
 refine pW0 Tryz.func71 rfl fun g=>go ?_
 refine cP h kv_RunName_walk fun y1 h=>gN 0 ?_
 refine kS h (Sum.elim (aO .normal (fun v1=>⟨53, 0, ofRegs [(1, vI from_), (2, .ptr 0 0), (4, .ptr 1 0)], [.var 38 [sL encFile v1.1, vI v1.2.1, vI v1.2.2.1, vB v1.2.2.2, vI x.From, vI x.Seg, vI x.Run, sL encPair x.S.Data, sL encPair x.S.Toks, vB x.Down], .var 38 [vN, vI 0, vI 0, vB false, vI 0, vI 0, vI 0, vN, vN, vB false]]⟩)) (Sum.elim (aO .ret (fun v2=>⟨53, 0, ofRegs [(4, .ptr 1 0), (5, .v .nilIface)], [.gone, .var 38 [sL encFile v2.1, vI v2.2.1, vI v2.2.2.1, vB v2.2.2.2, vI x.From, vI x.Seg, vI x.Run, sL encPair x.S.Data, sL encPair x.S.Toks, vB x.Down]]⟩)) (Sum.elim (aO .ret (fun v3=>⟨53, 0, ofRegs [(4, .ptr 1 0), (5, .ifc 180 (.agg [vI v3.1, .ifc 178 (.agg [])]))], [.gone, .var 38 [sL encFile v3.2.1, vI v3.2.2.1, vI v3.2.2.2.1, vB v3.2.2.2.2, vI x.From, vI x.Seg, vI x.Run, sL encPair x.S.Data, sL encPair x.S.Toks, vB x.Down]]⟩)) (aO .ret (fun v4=>⟨53, 0, ofRegs [(4, .ptr 1 0), (5, .ifc 180 (.agg [vI v4.1, .v .nilIface]))], [.gone, .var 38 [sL encFile v4.2.1, vI v4.2.2.1, vI v4.2.2.2.1, vB v4.2.2.2.2, vI x.From, vI x.Seg, vI x.Run, sL encPair x.S.Data, sL encPair x.S.Toks, vB x.Down]]⟩))))) (fun y2 h=>go ?_) <|bE (bO fun v1 _ h w=>wk w (go ?_)) (bE (bO fun v2 _ h w=>eFw) (bE (bO fun v3 _ h w=>eFw) <|bO fun v4 _ h w=>eFw))
 refine cP h disk_Find_walk fun y3 h=>go ?_
 refine cC h rfl (fun c1 h=>go ?_) fun c1 h=>cE
 refine cP h disk_Delete_walk fun y4 h=>go ?_
 refine cC h rfl (fun c2 h=>go ?_) fun c2 h=>cE
 refine Draw.one 3 (.take 0 (.take 1 (.alt 2 (.fin) (.nil)))) [] (by kernel_rfl) ⟨go ?_, ⟨⟩⟩
 obtain ⟨y5,q1,h⟩ := bind_some h
 refine PureP.mono (kv_fails_walk q1) ?_
 rcases y5 with y6 | y7 | y8
 dsimp only at h
 rintro _ rfl
 refine go ?_
 cases h
 exact ⟨rfl, (wF (.g .rest) (.all rfl))⟩
 dsimp only at h
 rintro _ rfl
 refine go ?_
 cases h
 exact ⟨rfl, (wF (.g .rest) (.all rfl))⟩
 dsimp only at h
 rintro _ rfl
 refine go ?_
 cases h
 exact ⟨rfl, (wF (.g .rest) (.all rfl))⟩
 refine cP h wal_Drop_walk fun y9 h=>go ?_
 refine Draw.one 3 (.take 0 (.take 1 (.alt 2 (.fin) (.nil)))) [] (by kernel_rfl) ⟨go ?_, ⟨⟩⟩
 obtain ⟨y10,q2,h⟩ := bind_some h
 refine PureP.mono (kv_fails_walk q2) ?_
 rcases y10 with y11 | y12 | y13
 dsimp only at h
 rintro _ rfl
 exact eF
 dsimp only at h
 rintro _ rfl
 exact eF
 dsimp only at h
 rintro _ rfl
 exact eF
def kv_told_3 (x : Store) : Option (Store × Int) :=
 some (x, 0)
theorem kv_told_3_walk {x r} (h : kv_told_3 x = some r) : pP 45 [.agg (encStore x), .v .nilIface] (.tup [.agg (encStore r.1), vI r.2]) := by
 unfold kv_told_3 at h
 refine pW (G := ⟨tys, [104], [], []⟩) tyOk mixed Tryz.func45 rfl fun g=>go ?_
 refine mC (callP_asnil (callable_of Tryz.func104 rfl (by kernel_rfl)) as_nil [.var 180 [vI 0, .v .nilIface]] (.ifc 182 (.ptr 0 0))) [2] (go ?_)
 exact Tri.condT rfl eF
def kv_Check_l2 (x : Store) (y1 : Str × Int) (y2 y3 : Str) (a1 : Int) (a2 : (List File)) (a3 a4 : Int) (a5 : Bool) : Option ((Int × (List File) × Int × Int × Bool) ⊕ ((Int × (List File) × Int × Int × Bool × Int × Int × Int × (List Pair) × (List Pair) × Bool) ⊕ ((List File) × Int × Int × Bool))) :=
 if (decide (a1 < ([(y2, y1.1), ([109], y3)].length : Int))) then
 (ix [(y2, y1.1), ([109], y3)] a1).bind fun x1 =>
 (run_Lay ({ Files := a2, Room := a3, Fuse := a4, Off := a5 } : Disk) x1.1 x1.2).bind fun y4 =>
 (kv_fails y4.2).bind fun y5 =>
 match y5 with
 | (.inl y6) =>
  some (.inl ((IntKind.i64.wrap (a1 + 1)), y4.1.Files, y4.1.Room, y4.1.Fuse, y4.1.Off))
 | (.inr (.inl y7)) =>
  (kv_told ({ D := y4.1, From := x.From, Seg := x.Seg, Run := x.Run, S := x.S, Down := x.Down } : Store) y7).bind fun y8 =>
  some (.inr (.inl (y8.2, y8.1.D.Files, y8.1.D.Room, y8.1.D.Fuse, y8.1.D.Off, y8.1.From, y8.1.Seg, y8.1.Run, y8.1.S.Data, y8.1.S.Toks, y8.1.Down)))
 | (.inr (.inr y9)) =>
 (kv_told_2 ({ D := y4.1, From := x.From, Seg := x.Seg, Run := x.Run, S := x.S, Down := x.Down } : Store) y9).bind fun y10 =>
 some (.inr (.inl (y10.2, y10.1.D.Files, y10.1.D.Room, y10.1.D.Fuse, y10.1.D.Off, y10.1.From, y10.1.Seg, y10.1.Run, y10.1.S.Data, y10.1.S.Toks, y10.1.Down)))
 else
 some (.inr (.inr (a2, a3, a4, a5)))
def kv_Check (x : Store) : Option (Store × Int) :=
 if x.Down then some (x, 6) else
 if ((decide (x.Seg ≥ 1000000)) || (decide (x.Run ≥ 1000000))) then some (x, 5) else
 (batch_Pairs x.S).bind fun y1 =>
 (run_Bytes y1).bind fun y2 =>
 if (!(decide (y2.2 = 0))) then some (x, y2.2) else
 (kv_RunName (IntKind.i64.wrap (x.Run + 1))).bind fun y3 =>
 (kv_Manifest (IntKind.i64.wrap (x.Seg + 1)) (IntKind.i64.wrap (x.Run + 1))).bind fun y4 =>
 (loop (fun (s1 : Int × (List File) × Int × Int × Bool) => kv_Check_l2 x y2 y3 y4 s1.1 s1.2.1 s1.2.2.1 s1.2.2.2.1 s1.2.2.2.2) ((0 : Int), x.D.Files, x.D.Room, x.D.Fuse, x.D.Off)).bind fun (y5 : (Int × (List File) × Int × Int × Bool × Int × Int × Int × (List Pair) × (List Pair) × Bool) ⊕ ((List File) × Int × Int × Bool)) =>
 match y5 with
 | (.inl v1) =>
  some (({ D := ({ Files := v1.2.1, Room := v1.2.2.1, Fuse := v1.2.2.2.1, Off := v1.2.2.2.2.1 } : Disk), From := v1.2.2.2.2.2.1, Seg := v1.2.2.2.2.2.2.1, Run := v1.2.2.2.2.2.2.2.1, S := ({ Data := v1.2.2.2.2.2.2.2.2.1, Toks := v1.2.2.2.2.2.2.2.2.2.1 } : State), Down := v1.2.2.2.2.2.2.2.2.2.2 } : Store), v1.1)
 | (.inr v2) =>
 (kv_old ({ D := ({ Files := v2.1, Room := v2.2.1, Fuse := v2.2.2.1, Off := v2.2.2.2 } : Disk), From := (IntKind.i64.wrap (x.Seg + 1)), Seg := (IntKind.i64.wrap (x.Seg + 1)), Run := (IntKind.i64.wrap (x.Run + 1)), S := x.S, Down := x.Down } : Store) x.From).bind fun y6 =>
 match y6 with
 | (.inl y7) =>
  (kv_told_3 y7).bind fun y8 =>
  some (y8.1, y8.2)
 | (.inr (.inl y9)) =>
  (kv_told y9.1 y9.2).bind fun y10 =>
  some (y10.1, y10.2)
 | (.inr (.inr y11)) =>
 (kv_told_2 y11.1 y11.2).bind fun y12 =>
 some (y12.1, y12.2)
theorem kv_Check_walk {x r} (h : kv_Check x = some r) : pP 26 [.agg (encStore x)] (.tup [.agg (encStore r.1), vI r.2]) := by
 unfold kv_Check at h
 refine pW0 Tryz.func26 rfl fun g=>go ?_
 refine cC h rfl (fun c1 h=>eF) fun c1 h=>(k0 ⟨100, 0, ofRegs [(1, .ptr 0 0), (2, .ptr 1 0), (16, vB ((decide (x.Seg ≥ 1000000)) || (decide (x.Run ≥ 1000000))))], [.var 38 (encStore x), .var 38 [vN, vI 0, vI 0, vB false, vI 0, vI 0, vI 0, vN, vN, vB false]]⟩ (go ?_) ((cC h rfl (fun c2 h=>eF) fun c2 h=>go ?_)))
 exact cK (decide (x.Seg ≥ 1000000)) (fun i1=>cI) fun i1=>cI
 refine cP h batch_Pairs_walk fun y1 h=>go ?_
 refine cP h run_Bytes_walk fun y2 h=>go ?_
 refine cC h rfl (fun c3 h=>eF) fun c3 h=>go ?_
 refine Draw.one 13 (.take 0 (.take 2 (.take 4 (.take 5 (.take 6 (.take 7 (.take 12 (.alt 1 (.take 3 (.alt 8 (.take 9 (.alt 10 (.take 11 (.fin)) (.nil))) (.nil))) (.nil))))))))) [] (by kernel_rfl) ⟨go ?_, ⟨⟩⟩
 refine cP h kv_RunName_walk fun y3 h=>⟨go ?_, ⟨⟩⟩
 refine cP h kv_Manifest_walk fun y4 h=>⟨⟨List.map encA141 [(y3, y2.1), ([109], y4)], rfl, rfl, ([(y3, y2.1), ([109], y4)].length : Int), by simp, go ?_⟩, ⟨⟩⟩
 refine lQ h (fun s1=>⟨100, 0, ofRegs [(1, .ptr 0 0), (2, .ptr 1 0), (6, vI (IntKind.i64.wrap (x.Run + 1))), (50, .row 2 ((List.map encA141 [(y3, y2.1), ([109], y4)]).length)), (51, vI ([(y3, y2.1), ([109], y4)].length : Int)), (52, vI s1.1)], [.var 38 [sL encFile s1.2.1, vI s1.2.2.1, vI s1.2.2.2.1, vB s1.2.2.2.2, vI x.From, vI x.Seg, vI x.Run, sL encPair x.S.Data, sL encPair x.S.Toks, vB x.Down], .var 38 [vN, vI 0, vI 0, vB false, vI 0, vI 0, vI 0, vN, vN, vB false], .row 141 2 (List.map encA141 [(y3, y2.1), ([109], y4)])]⟩) (Sum.elim (aO .ret (fun v1=>⟨100, 0, ofRegs [(2, .ptr 1 0), (3, vI v1.1)], [.gone, .var 38 [sL encFile v1.2.1, vI v1.2.2.1, vI v1.2.2.2.1, vB v1.2.2.2.2.1, vI v1.2.2.2.2.2.1, vI v1.2.2.2.2.2.2.1, vI v1.2.2.2.2.2.2.2.1, sL encPair v1.2.2.2.2.2.2.2.2.1, sL encPair v1.2.2.2.2.2.2.2.2.2.1, vB v1.2.2.2.2.2.2.2.2.2.2]]⟩)) (aO (.exit 1) (fun v2=>⟨100, 0, ofRegs [(1, .ptr 0 0), (2, .ptr 1 0), (6, vI (IntKind.i64.wrap (x.Run + 1)))], [.var 38 [sL encFile v2.1, vI v2.2.1, vI v2.2.2.1, vB v2.2.2.2, vI x.From, vI x.Seg, vI x.Run, sL encPair x.S.Data, sL encPair x.S.Toks, vB x.Down], .var 38 [vN, vI 0, vI 0, vB false, vI 0, vI 0, vI 0, vN, vN, vB false]]⟩))) wI ?_ <|bE (bO fun v1 _ h w=>eFw) <|bO fun v2 _ h w=>wk w (go ?_)
 rintro y5 ⟨a1,a2,a3,a4,a5⟩ v3 h r
 replace h : kv_Check_l2 x y2 y3 y4 a1 a2 a3 a4 a5 = some v3 := h
 unfold kv_Check_l2 at h
 dsimp only
 refine go ?_
 refine cC h rfl (fun c4 h=>go ?_) fun c4 h=>xE
 obtain ⟨x1,q1,h⟩ := bind_some h
 refine ⟨⟨rfl, (ix_lt q1).1, by have := ix_lt q1; simp only [List.length_map, List.length_set, List.length_cons, List.length_nil] at *; omega⟩, ?_⟩
 refine ⟨rfl, _, map_get encA141 (ix_some q1).2, go ?_⟩
 refine ⟨by decide, by decide, go ?_⟩
 refine cP h run_Lay_walk fun y6 h=>go ?_
 obtain ⟨y7,q2,h⟩ := bind_some h
 refine PureP.mono (kv_fails_walk q2) ?_
 rcases y7 with y8 | y9 | y10
 dsimp only at h
 rintro _ rfl
 refine go ?_
 exact Tri.condF rfl cN
 dsimp only at h
 rintro _ rfl
 refine go ?_
 refine Tri.condT rfl (go ?_)
 refine cP h kv_told_walk fun y11 h=>go ?_
 cases h
 obtain rfl := r _ rfl
 exact ⟨rfl, (wF (.g .rest) (.all rfl))⟩
 dsimp only at h
 rintro _ rfl
 refine go ?_
 refine Tri.condT rfl (go ?_)
 refine cP h kv_told_2_walk fun y12 h=>go ?_
 cases h
 obtain rfl := r _ rfl
 exact ⟨rfl, (wF (.g .rest) (.all rfl))⟩
 obtain ⟨y13,q3,h⟩ := bind_some h
 refine PureP.mono (kv_old_walk q3) ?_
 rcases y13 with y14 | y16 | y18
 dsimp only at h
 rintro _ rfl
 refine go ?_
 exact cP h kv_told_3_walk fun y19 h=>eF
 dsimp only at h
 rintro _ rfl
 refine go ?_
 exact cP h kv_told_walk fun y20 h=>eF
 dsimp only at h
 rintro _ rfl
 refine go ?_
 exact cP h kv_told_2_walk fun y21 h=>eF
def law08_KvRuns_l2 (l : (List Batch)) (y1 : Bool) (a1 : Int) (a2 : (List File)) (a3 a4 : Int) (a5 : Bool) (a6 a7 a8 : Int) (a9 a10 : (List Pair)) (a11 : Bool) : Option ((Int × (List File) × Int × Int × Bool × Int × Int × Int × (List Pair) × (List Pair) × Bool) ⊕ ((Bool) ⊕ (Unit))) :=
 if ((decide (a1 < (l.length : Int))) && (decide (a1 < 60))) then
 (ix l a1).bind fun x1 =>
 (kv_Commit ({ D := ({ Files := a2, Room := a3, Fuse := a4, Off := a5 } : Disk), From := a6, Seg := a7, Run := a8, S := ({ Data := a9, Toks := a10 } : State), Down := a11 } : Store) x1).bind fun y2 =>
 (kv_Check y2.1).bind fun y3 =>
 if (!(decide (y3.2 = 0))) then
 if y1 then
 (ref07_Same y2.1.S y3.1.S).bind fun y4 =>
 some (.inr (.inl y4))
 else
 some (.inr (.inl false))
 else
 (ref08_RunName y2.1.Seg).bind fun y5 =>
 need ((0 : Int) ≤ 1 ∧ 1 ≤ (y5.length : Int) ∧ (y5.length : Int) ≤ (y5.length : Int)) <|
 need (([119] : Str).length + (cut y5 1 (y5.length : Int)).length ≤ 9223372036854775807) <|
 (ref03_Find y3.1.D ([119] ++ (cut y5 1 (y5.length : Int)))).bind fun y6 =>
 (kv_RunName y2.1.Run).bind fun y7 =>
 (ref03_Find y3.1.D y7).bind fun y8 =>
 if ((!(decide (y3.1.Run = (IntKind.i64.wrap (y2.1.Run + 1))))) || ((!(decide (y3.1.From = (IntKind.i64.wrap (y2.1.Seg + 1))))) || ((!(decide (y3.1.Seg = y3.1.From))) || (y6.2 || y8.2)))) then some (.inr (.inl false)) else
 some (.inl ((IntKind.i64.wrap (a1 + 1)), y3.1.D.Files, y3.1.D.Room, y3.1.D.Fuse, y3.1.D.Off, y3.1.From, y3.1.Seg, y3.1.Run, y3.1.S.Data, y3.1.S.Toks, y3.1.Down))
 else
 some (.inr (.inr ()))
def law08_KvRuns (room : Int) (l : (List Batch)) : Option (Bool) :=
 law08_shown.bind fun y1 =>
 (ref03_New room).bind fun y2 =>
 (kv_Open y2.1).bind fun y4 =>
 if ((!y1) || ((!(decide (y2.2 = 0))) || (!(decide (y4.2 = 0))))) then
 if y1 then some (!(decide (y2.2 = 0))) else
 some false
 else
 (loop (fun (s1 : Int × (List File) × Int × Int × Bool × Int × Int × Int × (List Pair) × (List Pair) × Bool) => law08_KvRuns_l2 l y1 s1.1 s1.2.1 s1.2.2.1 s1.2.2.2.1 s1.2.2.2.2.1 s1.2.2.2.2.2.1 s1.2.2.2.2.2.2.1 s1.2.2.2.2.2.2.2.1 s1.2.2.2.2.2.2.2.2.1 s1.2.2.2.2.2.2.2.2.2.1 s1.2.2.2.2.2.2.2.2.2.2) ((0 : Int), y4.1.D.Files, y4.1.D.Room, y4.1.D.Fuse, y4.1.D.Off, y4.1.From, y4.1.Seg, y4.1.Run, y4.1.S.Data, y4.1.S.Toks, y4.1.Down)).bind fun (y6 : (Bool) ⊕ (Unit)) =>
 match y6 with
 | (.inl v1) =>
  some v1
 | (.inr v2) =>
 some y1
theorem law08_KvRuns_walk {room l r} (h : law08_KvRuns room l = some r) : pP 6 [vI room, sL encBatch l] (vB r) := by
 unfold law08_KvRuns at h
 refine pW0 Tryz.func6 rfl fun g=>go ?_
 refine cP h law08_shown_walk fun y1 h=>go ?_
 refine cP h ref03_New_walk fun y2 h=>go ?_
 refine cP h kv_Open_walk fun y4 h=>gN 1 ?_
 refine k0 ⟨126, 0, ofRegs [(1, sL encBatch l), (5, vB y1), (7, vI y2.2), (8, .ptr 1 0), (37, vB ((!y1) || ((!(decide (y2.2 = 0))) || (!(decide (y4.2 = 0))))))], [.gone, .var 38 (encStore y4.1)]⟩ (go ?_) ((cC h rfl (fun c1 h=>go ?_) fun c1 h=>go ?_))
 refine cK (!y1) (fun i1=>go ?_) fun i1=>go ?_
 exact ⟨rfl, (wF (.g .rest) (.s (.s (.s (.s (.q (.all rfl)))))))⟩
 refine cK (!(decide (y2.2 = 0))) (fun i2=>go ?_) fun i2=>go ?_
 exact ⟨rfl, (wF (.g .rest) (.s (.s (.s (.s (.q (.all rfl)))))))⟩
 exact ⟨rfl, (wF (.g .rest) (.s (.s (.s (.s (.q (.all rfl)))))))⟩
 exact cM h (fun c2 h=>eF) fun c2 h=>eF
 refine lQ h (fun s1=>⟨126, 0, ofRegs [(1, sL encBatch l), (5, vB y1), (8, .ptr 1 0), (10, vI s1.1)], [.gone, .var 38 [sL encFile s1.2.1, vI s1.2.2.1, vI s1.2.2.2.1, vB s1.2.2.2.2.1, vI s1.2.2.2.2.2.1, vI s1.2.2.2.2.2.2.1, vI s1.2.2.2.2.2.2.2.1, sL encPair s1.2.2.2.2.2.2.2.2.1, sL encPair s1.2.2.2.2.2.2.2.2.2.1, vB s1.2.2.2.2.2.2.2.2.2.2]]⟩) (Sum.elim (aO .ret (fun v1=>⟨126, 0, ofRegs [(4, vB v1)], []⟩)) (aO (.exit 0) (fun _=>⟨126, 0, ofRegs [(5, vB y1)], []⟩))) wA ?_ <|bE (bO fun v1 _ h w=>eFw) <|bO fun v2 _ h w=>wk w eF
 rintro y6 ⟨a1,a2,a3,a4,a5,a6,a7,a8,a9,a10,a11⟩ v3 h r
 replace h : law08_KvRuns_l2 l y1 a1 a2 a3 a4 a5 a6 a7 a8 a9 a10 a11 = some v3 := h
 unfold law08_KvRuns_l2 at h
 dsimp only
 refine gN 1 ?_
 refine k0 ⟨126, 0, ofRegs [(1, sL encBatch l), (5, vB y1), (8, .ptr 1 0), (10, vI a1), (50, vB ((decide (a1 < (l.length : Int))) && (decide (a1 < 60))))], [.gone, .var 38 [sL encFile a2, vI a3, vI a4, vB a5, vI a6, vI a7, vI a8, sL encPair a9, sL encPair a10, vB a11]]⟩ (go ?_) ((cC h rfl (fun c3 h=>go ?_) fun c3 h=>xE))
 refine ⟨_, (len_map _ _).symm, go ?_⟩
 exact cK (decide (a1 < (l.length : Int))) (fun i1=>cI) fun i1=>cI
 refine Draw.one 10 (.take 1 (.take 2 (.take 3 (.take 4 (.alt 0 (.alt 5 (.take 6 (.take 7 (.take 8 (.alt 9 (.fin) (.nil))))) (.nil)) (.nil)))))) [1, 2, 3, 4, 5, 6, 7] (by kernel_rfl) (go ?_)
 refine bD h fun x1 q1 h=>⟨(ix_some q1).1, _, map_get encBatch (ix_some q1).2, rfl, ⟨go ?_, ⟨⟩⟩, ⟨⟩⟩
 refine cP h kv_Commit_walk fun y7 h=>⟨go ?_, ⟨⟩⟩
 refine cP h kv_Check_walk fun y8 h=>go ?_
 refine cC h rfl (fun c4 h=>go ?_) fun c4 h=>go ?_
 refine cM h (fun c5 h=>go ?_) fun c5 h=>xE
 exact cP h ref07_Same_walk fun y9 h=>xE
 obtain ⟨y10,q2,h⟩ := bind_some h
 obtain ⟨p1,h⟩ := need_some h
 obtain ⟨p2,h⟩ := need_some h
 obtain ⟨y11,q3,h⟩ := bind_some h
 refine Draw.many 13 (.take 0 (.take 1 (.take 2 (.take 3 (.alt 4 (.take 5 (.take 6 (.alt 7 (.take 8 (.take 9 (.take 10 (.alt 11 (.alt 12 (.fin) (.nil)) (.nil))))) (.alt 11 (.alt 7 (.take 8 (.take 9 (.take 10 (.alt 12 (.fin) (.nil))))) (.nil)) (.nil))))) (.alt 11 (.alt 4 (.take 5 (.take 6 (.alt 7 (.take 8 (.take 9 (.take 10 (.alt 12 (.fin) (.nil))))) (.nil)))) (.nil)) (.nil))))))) [3, 4, 5, 6, 7, 8] (⟨126, 0, ofRegs [(1, sL encBatch l), (5, vB y1), (8, .ptr 1 0), (10, vI a1), (11, .ptr 2 0), (87, vB y11.2)], [.gone, .var 38 (encStore y7.1), .var 38 (encStore y8.1)]⟩) (by kernel_rfl) ⟨go ?_, ⟨⟨go ?_, ⟨⟩⟩, ⟨⟩⟩⟩ (go ?_)
 refine mP (ref08_RunName_walk q2) ⟨p1, bs (cut y10 1 (y10.length : Int)), bs_cut _ _ _, p2, _, bs_append _ _, go ?_, ⟨⟨go ?_, ⟨⟩⟩, ⟨⟩⟩⟩
 exact mP (ref03_Find_walk q3) ⟨⟨cA, ⟨⟩⟩, ⟨⟩⟩
 exact mP (ref03_Find_walk q3) ⟨cA, ⟨⟩⟩
 refine mP (ref08_RunName_walk q2) ⟨p1, bs (cut y10 1 (y10.length : Int)), bs_cut _ _ _, p2, _, bs_append _ _, go ?_, ⟨⟩⟩
 exact mP (ref03_Find_walk q3) ⟨cA, ⟨⟩⟩
 obtain ⟨y12,q4,h⟩ := bind_some h
 obtain ⟨y13,q5,h⟩ := bind_some h
 refine Draw.many 11 (.take 0 (.take 1 (.take 2 (.take 3 (.alt 4 (.alt 5 (.take 6 (.take 7 (.take 8 (.alt 9 (.alt 10 (.fin) (.nil)) (.nil))))) (.alt 9 (.alt 5 (.take 6 (.take 7 (.take 8 (.alt 10 (.fin) (.nil))))) (.nil)) (.nil))) (.alt 9 (.alt 4 (.alt 5 (.take 6 (.take 7 (.take 8 (.alt 10 (.fin) (.nil))))) (.nil)) (.nil)) (.nil))))))) [3, 4, 5, 6, 7, 8] (⟨126, 0, ofRegs [(1, sL encBatch l), (5, vB y1), (8, .ptr 1 0), (10, vI a1), (11, .ptr 2 0), (14, vB y11.2), (96, vB y13.2)], [.gone, .var 38 (encStore y7.1), .var 38 (encStore y8.1)]⟩) (by kernel_rfl) ⟨go ?_, ⟨⟨go ?_, ⟨⟩⟩, ⟨⟩⟩⟩ (gN 1 ?_)
 refine mP (kv_RunName_walk q4) ⟨go ?_, ⟨⟨go ?_, ⟨⟩⟩, ⟨⟩⟩⟩
 exact mP (ref03_Find_walk q5) ⟨⟨cA, ⟨⟩⟩, ⟨⟩⟩
 exact mP (ref03_Find_walk q5) ⟨cA, ⟨⟩⟩
 refine mP (kv_RunName_walk q4) ⟨go ?_, ⟨⟩⟩
 exact mP (ref03_Find_walk q5) ⟨cA, ⟨⟩⟩
 refine k0 ⟨126, 0, ofRegs [(1, sL encBatch l), (5, vB y1), (8, .ptr 1 0), (10, vI a1), (11, .ptr 2 0), (123, vB ((!(decide (y8.1.Run = (IntKind.i64.wrap (y7.1.Run + 1))))) || ((!(decide (y8.1.From = (IntKind.i64.wrap (y7.1.Seg + 1))))) || ((!(decide (y8.1.Seg = y8.1.From))) || (y11.2 || y13.2)))))], [.gone, .var 38 (encStore y7.1), .var 38 (encStore y8.1)]⟩ (go ?_) ?_
 refine cK (!(decide (y8.1.Run = (IntKind.i64.wrap (y7.1.Run + 1))))) (fun i1=>cI) fun i1=>go ?_
 refine cK (!(decide (y8.1.From = (IntKind.i64.wrap (y7.1.Seg + 1))))) (fun i2=>cI) fun i2=>go ?_
 refine cK (!(decide (y8.1.Seg = y8.1.From))) (fun i3=>cI) fun i3=>go ?_
 exact cK (y11.2) (fun i4=>cI) fun i4=>cI
 exact cC h rfl (fun c6 h=>xE) fun c6 h=>cN
def disk_Arm (d : Disk) (fuse : Int) : Option (Disk) :=
 some ({ Files := d.Files, Room := d.Room, Fuse := (if fuse < (-1) then (-1) else fuse), Off := d.Off } : Disk)
theorem disk_Arm_walk {d fuse r} (h : disk_Arm d fuse = some r) : pP 73 [.agg (encDisk d), vI fuse] (.agg (encDisk r)) := by
 unfold disk_Arm at h
 exact pW0 Tryz.func73 rfl fun g=>eF
def kv_Arm (x : Store) (fuse : Int) : Option (Store) :=
 (disk_Arm x.D fuse).bind fun y1 =>
 some ({ D := y1, From := x.From, Seg := x.Seg, Run := x.Run, S := x.S, Down := x.Down } : Store)
theorem kv_Arm_walk {x fuse r} (h : kv_Arm x fuse = some r) : pP 28 [.agg (encStore x), vI fuse] (.agg (encStore r)) := by
 unfold kv_Arm at h
 refine pW0 Tryz.func28 rfl fun g=>go ?_
 exact cP h disk_Arm_walk fun y1 h=>eF
def law08_comes_l2 (l : (List Batch)) (n a1 : Int) (a2 a3 : (List Pair)) : Option ((Int × (List Pair) × (List Pair)) ⊕ ((List Pair) × (List Pair))) :=
 if (decide (a1 < n)) then
 (ix l a1).bind fun x1 =>
 (ref07_Do ({ Data := a2, Toks := a3 } : State) x1).bind fun y1 =>
 some (.inl ((IntKind.i64.wrap (a1 + 1)), y1.1.Data, y1.1.Toks))
 else
 some (.inr (a2, a3))
def law08_comes (l : (List Batch)) (n : Int) : Option (State) :=
 (loop (fun (s1 : Int × (List Pair) × (List Pair)) => law08_comes_l2 l n s1.1 s1.2.1 s1.2.2) ((0 : Int), ([] : (List Pair)), ([] : (List Pair)))).bind fun (y1 : (List Pair) × (List Pair)) =>
 some ({ Data := y1.1, Toks := y1.2 } : State)
theorem law08_comes_walk {l n r} (h : law08_comes l n = some r) : pP 29 [sL encBatch l, vI n] (.agg (encState r)) := by
 unfold law08_comes at h
 refine pW0 Tryz.func29 rfl fun g=>go ?_
 refine lQ h (fun s1=>⟨23, 0, ofRegs [(0, sL encBatch l), (1, vI n), (4, .ptr 0 0), (5, .ptr 1 0), (6, vI s1.1)], [.var 36 [vN, vN], .var 36 [sL encPair s1.2.1, sL encPair s1.2.2]]⟩) (aO (.exit 0) (fun y1=>⟨23, 0, ofRegs [(4, .ptr 0 0), (5, .ptr 1 0)], [.var 36 [vN, vN], .var 36 [sL encPair y1.1, sL encPair y1.2]]⟩)) (wF (.s (.cons (.var (.cons (.nil) (.cons (.nil) (.nil)))) .rest)) (.all rfl)) ?_ <|bO fun y1 _ h w=>wk w eF
 rintro y1 ⟨a1,a2,a3⟩ v1 h r
 replace h : law08_comes_l2 l n a1 a2 a3 = some v1 := h
 unfold law08_comes_l2 at h
 dsimp only
 refine go ?_
 refine cC h rfl (fun c1 h=>go ?_) fun c1 h=>xE
 refine Draw.one 10 (.take 1 (.take 2 (.take 3 (.take 4 (.alt 0 (.alt 5 (.take 6 (.take 7 (.take 8 (.alt 9 (.fin) (.nil))))) (.nil)) (.nil)))))) [1, 2, 3, 4, 5, 6, 7] (by kernel_rfl) (go ?_)
 refine bD h fun x1 q1 h=>⟨(ix_some q1).1, _, map_get encBatch (ix_some q1).2, rfl, ⟨go ?_, ⟨⟩⟩, ⟨⟩⟩
 exact cP h ref07_Do_walk fun y2 h=>⟨cN, ⟨⟩⟩
def law08_KvLasts_l72 (a1 : (List File)) (x1 : Act) (a2 : Int) (a3 : (List Int)) : Option ((Int × (List Int)) ⊕ ((List Int))) :=
 if (decide (a2 < (a1.length : Int))) then
 need ((a3.length + 1) * 8 ≤ 140737488355328) <|
 some (.inl ((IntKind.i64.wrap (a2 + 1)), (a3 ++ [x1.N])))
 else
 some (.inr a3)
def law08_KvLasts_l74 (a1 : (List Batch)) (y1 : Store × Int) (a2 a3 : Int) : Option ((Int × Int) ⊕ (Int)) :=
 if (decide (a3 ≤ (a1.length : Int))) then
 ((law08_comes a1 a3).bind fun y2 =>
 (ref07_Same y2 y1.1.S).bind fun y3 =>
 if (y3 && (decide (a2 < 0))) then some a3 else
 some a2).bind fun (y4 : Int) =>
 some (.inl (y4, (IntKind.i64.wrap (a3 + 1))))
 else
 some (.inr a2)
def law08_KvLasts_l62 (l : (List Act)) (a1 : Int) (a2 : (List File)) (a3 a4 : Int) (a5 : Bool) (a6 a7 a8 : Int) (a9 a10 : (List Pair)) (a11 : Bool) (a12 : (List Batch)) (a13 : Int) : Option ((Int × (List File) × Int × Int × Bool × Int × Int × Int × (List Pair) × (List Pair) × Bool × (List Batch) × Int) ⊕ ((Bool) ⊕ (Unit))) :=
 if ((decide (a1 < (l.length : Int))) && (decide (a1 < 200))) then
 ((ix l a1).bind fun x1 =>
 if (decide (x1.Kind = 1)) then
 (kv_Commit ({ D := ({ Files := a2, Room := a3, Fuse := a4, Off := a5 } : Disk), From := a6, Seg := a7, Run := a8, S := ({ Data := a9, Toks := a10 } : State), Down := a11 } : Store) x1.B).bind fun y1 =>
 if (decide (y1.2 = 0)) then
 need ((([] : List Batch).length + a12.length) * 48 ≤ 140737488355328) <|
 need (((([] : List Batch) ++ a12).length + 1) * 48 ≤ 140737488355328) <|
 some (.inl (y1.1.D.Files, y1.1.D.Room, y1.1.D.Fuse, y1.1.D.Off, y1.1.From, y1.1.Seg, y1.1.Run, y1.1.S.Data, y1.1.S.Toks, y1.1.Down, ((([] : List Batch) ++ a12) ++ [x1.B]), (((([] : List Batch) ++ a12) ++ [x1.B]).length : Int)))
 else
 if ((decide (y1.2 = 6)) && (!a11)) then
 need ((([] : List Batch).length + a12.length) * 48 ≤ 140737488355328) <|
 need (((([] : List Batch) ++ a12).length + 1) * 48 ≤ 140737488355328) <|
 some (.inl (y1.1.D.Files, y1.1.D.Room, y1.1.D.Fuse, y1.1.D.Off, y1.1.From, y1.1.Seg, y1.1.Run, y1.1.S.Data, y1.1.S.Toks, y1.1.Down, ((([] : List Batch) ++ a12) ++ [x1.B]), a13))
 else
 some (.inl (y1.1.D.Files, y1.1.D.Room, y1.1.D.Fuse, y1.1.D.Off, y1.1.From, y1.1.Seg, y1.1.Run, y1.1.S.Data, y1.1.S.Toks, y1.1.Down, a12, a13))
 else
 if (decide (x1.Kind = 2)) then
 (kv_Check ({ D := ({ Files := a2, Room := a3, Fuse := a4, Off := a5 } : Disk), From := a6, Seg := a7, Run := a8, S := ({ Data := a9, Toks := a10 } : State), Down := a11 } : Store)).bind fun y2 =>
 some (.inl (y2.1.D.Files, y2.1.D.Room, y2.1.D.Fuse, y2.1.D.Off, y2.1.From, y2.1.Seg, y2.1.Run, y2.1.S.Data, y2.1.S.Toks, y2.1.Down, a12, a13))
 else
 if (decide (x1.Kind = 3)) then
 (kv_Arm ({ D := ({ Files := a2, Room := a3, Fuse := a4, Off := a5 } : Disk), From := a6, Seg := a7, Run := a8, S := ({ Data := a9, Toks := a10 } : State), Down := a11 } : Store) x1.N).bind fun y3 =>
 some (.inl (y3.D.Files, y3.D.Room, y3.D.Fuse, y3.D.Off, y3.From, y3.Seg, y3.Run, y3.S.Data, y3.S.Toks, y3.Down, a12, a13))
 else
 if (decide (x1.Kind = 4)) then
 (loop (fun (s1 : Int × (List Int)) => law08_KvLasts_l72 a2 x1 s1.1 s1.2) ((0 : Int), ([] : (List Int)))).bind fun (y4 : (List Int)) =>
 (kv_Crash ({ D := ({ Files := a2, Room := a3, Fuse := a4, Off := a5 } : Disk), From := a6, Seg := a7, Run := a8, S := ({ Data := a9, Toks := a10 } : State), Down := a11 } : Store) y4).bind fun y5 =>
 if (decide (y5.2 = 5)) then some (.inr true) else
 (kv_Open y5.1.D).bind fun y6 =>
 (ref08_Same y5.1 y6.1).bind fun y7 =>
 if ((!(decide (y5.2 = 0))) || ((!(decide (y6.2 = 0))) || (!y7))) then some (.inr false) else
 (loop (fun (s2 : Int × Int) => law08_KvLasts_l74 a12 y5 s2.1 s2.2) (((-1) : Int), a13)).bind fun (y8 : Int) =>
 if (decide (y8 < 0)) then some (.inr false) else
 need ((0 : Int) ≤ (0 : Int) ∧ 0 ≤ y8 ∧ y8 ≤ (a12.length : Int)) <|
 some (.inl (y5.1.D.Files, y5.1.D.Room, y5.1.D.Fuse, y5.1.D.Off, y5.1.From, y5.1.Seg, y5.1.Run, y5.1.S.Data, y5.1.S.Toks, y5.1.Down, (cut a12 0 y8), y8))
 else
 some (.inl (a2, a3, a4, a5, a6, a7, a8, a9, a10, a11, a12, a13))).bind fun (y9 : ((List File) × Int × Int × Bool × Int × Int × Int × (List Pair) × (List Pair) × Bool × (List Batch) × Int) ⊕ (Bool)) =>
 match y9 with
 | (.inl v1) =>
  some (.inl ((IntKind.i64.wrap (a1 + 1)), v1.1, v1.2.1, v1.2.2.1, v1.2.2.2.1, v1.2.2.2.2.1, v1.2.2.2.2.2.1, v1.2.2.2.2.2.2.1, v1.2.2.2.2.2.2.2.1, v1.2.2.2.2.2.2.2.2.1, v1.2.2.2.2.2.2.2.2.2.1, v1.2.2.2.2.2.2.2.2.2.2.1, v1.2.2.2.2.2.2.2.2.2.2.2))
 | (.inr v2) =>
 some (.inr (.inl v2))
 else
 some (.inr (.inr ()))
def law08_KvLasts (room : Int) (l : (List Act)) : Option (Bool) :=
 law08_shown.bind fun y1 =>
 (ref03_New room).bind fun y2 =>
 (kv_Open y2.1).bind fun y4 =>
 if ((!(decide (y2.2 = 0))) || (!(decide (y4.2 = 0)))) then
 if y1 then some (!(decide (y2.2 = 0))) else
 some false
 else
 (loop (fun (s1 : Int × (List File) × Int × Int × Bool × Int × Int × Int × (List Pair) × (List Pair) × Bool × (List Batch) × Int) => law08_KvLasts_l62 l s1.1 s1.2.1 s1.2.2.1 s1.2.2.2.1 s1.2.2.2.2.1 s1.2.2.2.2.2.1 s1.2.2.2.2.2.2.1 s1.2.2.2.2.2.2.2.1 s1.2.2.2.2.2.2.2.2.1 s1.2.2.2.2.2.2.2.2.2.1 s1.2.2.2.2.2.2.2.2.2.2.1 s1.2.2.2.2.2.2.2.2.2.2.2.1 s1.2.2.2.2.2.2.2.2.2.2.2.2) ((0 : Int), y4.1.D.Files, y4.1.D.Room, y4.1.D.Fuse, y4.1.D.Off, y4.1.From, y4.1.Seg, y4.1.Run, y4.1.S.Data, y4.1.S.Toks, y4.1.Down, ([] : (List Batch)), (0 : Int))).bind fun (y6 : (Bool) ⊕ (Unit)) =>
 match y6 with
 | (.inl v1) =>
  some v1
 | (.inr v2) =>
 some y1
theorem law08_KvLasts_walk {room l r} (h : law08_KvLasts room l = some r) : pP 7 [vI room, sL encAct l] (vB r) := by
 unfold law08_KvLasts at h
 refine pW0 Tryz.func7 rfl fun g=>go ?_
 refine cP h law08_shown_walk fun y1 h=>go ?_
 refine cP h ref03_New_walk fun y2 h=>go ?_
 refine cP h kv_Open_walk fun y4 h=>gN 1 ?_
 refine k0 ⟨219, 0, ofRegs [(1, sL encAct l), (5, vB y1), (7, vI y2.2), (8, .ptr 1 0), (42, vB ((!(decide (y2.2 = 0))) || (!(decide (y4.2 = 0)))))], [.gone, .var 38 (encStore y4.1)]⟩ (go ?_) ((cC h rfl (fun c1 h=>go ?_) fun c1 h=>go ?_))
 refine cK (!(decide (y2.2 = 0))) (fun i1=>go ?_) fun i1=>go ?_
 exact ⟨rfl, (wF (.g .rest) (.s (.s (.s (.s (.q (.all rfl)))))))⟩
 exact ⟨rfl, (wF (.g .rest) (.s (.s (.s (.s (.q (.all rfl)))))))⟩
 exact cM h (fun c2 h=>eF) fun c2 h=>eF
 refine lQ h (fun s1=>⟨219, 0, ofRegs [(1, sL encAct l), (5, vB y1), (10, .ptr 2 0), (11, vI s1.1)], [.gone, .gone, .var 70 [sL encFile s1.2.1, vI s1.2.2.1, vI s1.2.2.2.1, vB s1.2.2.2.2.1, vI s1.2.2.2.2.2.1, vI s1.2.2.2.2.2.2.1, vI s1.2.2.2.2.2.2.2.1, sL encPair s1.2.2.2.2.2.2.2.2.1, sL encPair s1.2.2.2.2.2.2.2.2.2.1, vB s1.2.2.2.2.2.2.2.2.2.2.1, sL encBatch s1.2.2.2.2.2.2.2.2.2.2.2.1, vI s1.2.2.2.2.2.2.2.2.2.2.2.2]]⟩) (Sum.elim (aO .ret (fun v1=>⟨219, 0, ofRegs [(4, vB v1)], []⟩)) (aO (.exit 0) (fun _=>⟨219, 0, ofRegs [(5, vB y1)], []⟩))) (wF (.s (.g (.cons (.var (.cons (.same rfl) (.cons (.same rfl) (.cons (.same rfl) (.cons (.same rfl) (.cons (.same rfl) (.cons (.same rfl) (.cons (.same rfl) (.cons (.same rfl) (.cons (.same rfl) (.cons (.same rfl) (.cons (.nil) (.cons (.same rfl) (.nil)))))))))))))) .rest))) (.all rfl)) ?_ <|bE (bO fun v1 _ h w=>eFw) <|bO fun v2 _ h w=>wk w eF
 rintro y6 ⟨a1,a2,a3,a4,a5,a6,a7,a8,a9,a10,a11,a12,a13⟩ v3 h r
 replace h : law08_KvLasts_l62 l a1 a2 a3 a4 a5 a6 a7 a8 a9 a10 a11 a12 a13 = some v3 := h
 unfold law08_KvLasts_l62 at h
 dsimp only
 refine gN 1 ?_
 refine k0 ⟨219, 0, ofRegs [(1, sL encAct l), (5, vB y1), (10, .ptr 2 0), (11, vI a1), (57, vB ((decide (a1 < (l.length : Int))) && (decide (a1 < 200))))], [.gone, .gone, .var 70 [sL encFile a2, vI a3, vI a4, vB a5, vI a6, vI a7, vI a8, sL encPair a9, sL encPair a10, vB a11, sL encBatch a12, vI a13]]⟩ (go ?_) ((cC h rfl (fun c3 h=>gN 1 ?_) fun c3 h=>xE))
 refine ⟨_, (len_map _ _).symm, go ?_⟩
 exact cK (decide (a1 < (l.length : Int))) (fun i1=>cI) fun i1=>cI
 refine kS h (Sum.elim (aO .normal (fun v4=>⟨219, 0, ofRegs [(1, sL encAct l), (5, vB y1), (10, .ptr 2 0), (11, vI a1)], [.gone, .gone, .var 70 [sL encFile v4.1, vI v4.2.1, vI v4.2.2.1, vB v4.2.2.2.1, vI v4.2.2.2.2.1, vI v4.2.2.2.2.2.1, vI v4.2.2.2.2.2.2.1, sL encPair v4.2.2.2.2.2.2.2.1, sL encPair v4.2.2.2.2.2.2.2.2.1, vB v4.2.2.2.2.2.2.2.2.2.1, sL encBatch v4.2.2.2.2.2.2.2.2.2.2.1, vI v4.2.2.2.2.2.2.2.2.2.2.2]]⟩)) (aO .ret (fun v5=>⟨219, 0, ofRegs [(4, vB v5)], []⟩))) (fun y7 h=>go ?_) <|bE (bO fun v4 _ h w=>wk w cN) <|bO fun v5 _ h w=>xEw
 refine bD h fun x1 q1 h=>⟨(ix_some q1).1, _, map_get encAct (ix_some q1).2, rfl, go ?_⟩
 refine cC h rfl (fun c4 h=>go ?_) fun c4 h=>go ?_
 obtain ⟨y8,q2,h⟩ := bind_some h
 refine Draw.many 13 (.take 0 (.take 1 (.take 2 (.take 3 (.take 4 (.take 5 (.take 6 (.alt 7 (.take 8 (.take 9 (.take 10 (.alt 11 (.alt 12 (.fin) (.nil)) (.nil))))) (.alt 11 (.alt 7 (.take 8 (.take 9 (.take 10 (.alt 12 (.fin) (.nil))))) (.nil)) (.nil)))))))))) [3, 4, 5, 6, 7, 8] (⟨219, 0, ofRegs [(1, sL encAct l), (5, vB y1), (10, .ptr 2 0), (11, vI a1), (12, .ptr 3 0), (77, vI y8.2)], [.gone, .gone, .var 70 [sL encFile a2, vI a3, vI a4, vB a5, vI a6, vI a7, vI a8, sL encPair a9, sL encPair a10, vB a11, sL encBatch a12, vI a13], .var 38 (encStore y8.1)]⟩) (by kernel_rfl) ⟨(ix_some q1).1, _, map_get encAct (ix_some q1).2, rfl, go ?_, ⟨⟨go ?_, ⟨⟩⟩, ⟨⟩⟩⟩ (go ?_)
 exact mP (kv_Commit_walk q2) ⟨⟨cA, ⟨⟩⟩, ⟨⟩⟩
 exact mP (kv_Commit_walk q2) ⟨cA, ⟨⟩⟩
 refine cC h rfl (fun c5 h=>go ?_) fun c5 h=>(k0 ⟨219, 0, ofRegs [(1, sL encAct l), (5, vB y1), (10, .ptr 2 0), (11, vI a1), (106, vB ((decide (y8.2 = 6)) && (!a11)))], [.gone, .gone, .var 70 [sL encFile y8.1.D.Files, vI y8.1.D.Room, vI y8.1.D.Fuse, vB y8.1.D.Off, vI y8.1.From, vI y8.1.Seg, vI y8.1.Run, sL encPair y8.1.S.Data, sL encPair y8.1.S.Toks, vB y8.1.Down, sL encBatch a12, vI a13]]⟩ (go ?_) ((cC h rfl (fun c6 h=>go ?_) fun c6 h=>cE)))
 obtain ⟨p1,h⟩ := need_some h
 obtain ⟨p2,h⟩ := need_some h
 refine Draw.many 12 (.take 1 (.take 2 (.take 4 (.take 5 (.take 6 (.take 7 (.take 8 (.alt 0 (.alt 3 (.alt 9 (.alt 10 (.take 11 (.fin)) (.nil)) (.nil)) (.alt 9 (.alt 3 (.alt 10 (.take 11 (.fin)) (.nil)) (.nil)) (.nil))) (.alt 9 (.alt 0 (.alt 3 (.alt 10 (.take 11 (.fin)) (.nil)) (.nil)) (.nil)) (.nil)))))))))) [] (⟨219, 0, ofRegs [(1, sL encAct l), (5, vB y1), (10, .ptr 2 0), (11, vI a1), (95, sL encBatch ((([] : List Batch) ++ a12) ++ [x1.B])), (96, .ptr 2 10)], [.gone, .gone, .var 70 [sL encFile y8.1.D.Files, vI y8.1.D.Room, vI y8.1.D.Fuse, vB y8.1.D.Off, vI y8.1.From, vI y8.1.Seg, vI y8.1.Run, sL encPair y8.1.S.Data, sL encPair y8.1.S.Toks, vB y8.1.Down, sL encBatch a12, vI a13], .var 38 (encStore y8.1)]⟩) (by kernel_rfl) ⟨(ix_some q1).1, _, map_get encAct (ix_some q1).2, rfl, ⟨List.map encBatch ([] : List Batch), rfl, ⟨rfl, map_len (f := encBatch) (n := 3) (fun _ => rfl) _, by simp only [List.length_map]; exact p1, List.map encBatch (([] : List Batch) ++ a12), map_app encBatch _ _ rfl rfl, ⟨List.map encBatch [x1.B], rfl, ⟨rfl, rfl, by simp only [List.length_map]; exact p2, List.map encBatch ((([] : List Batch) ++ a12) ++ [x1.B]), map_app encBatch _ _ rfl rfl, go ?_⟩, ⟨⟩⟩, ⟨⟩⟩, ⟨⟨List.map encBatch [x1.B], rfl, ⟨rfl, map_len (f := encBatch) (n := 3) (fun _ => rfl) _, by simp only [List.length_map]; exact p1, List.map encBatch (([] : List Batch) ++ a12), map_app encBatch _ _ rfl rfl, ⟨rfl, rfl, by simp only [List.length_map]; exact p2, List.map encBatch ((([] : List Batch) ++ a12) ++ [x1.B]), map_app encBatch _ _ rfl rfl, go ?_⟩, ⟨⟩⟩, ⟨⟩⟩, ⟨⟩⟩⟩, ⟨⟨List.map encBatch [x1.B], rfl, ⟨List.map encBatch ([] : List Batch), rfl, ⟨rfl, map_len (f := encBatch) (n := 3) (fun _ => rfl) _, by simp only [List.length_map]; exact p1, List.map encBatch (([] : List Batch) ++ a12), map_app encBatch _ _ rfl rfl, ⟨rfl, rfl, by simp only [List.length_map]; exact p2, List.map encBatch ((([] : List Batch) ++ a12) ++ [x1.B]), map_app encBatch _ _ rfl rfl, go ?_⟩, ⟨⟩⟩, ⟨⟩⟩, ⟨⟩⟩, ⟨⟩⟩⟩ (go ?_)
 exact Weak.trans (weak_freeze 4 rfl) (wF .rest (.s (.s (.s (.s (.f (.all rfl)))))))
 exact Weak.trans (weak_freeze 4 rfl) (wF .rest (.s (.s (.s (.s (.f (.all rfl)))))))
 exact Weak.trans (weak_freeze 5 rfl) (wF .rest (.s (.s (.s (.s (.f (.all rfl)))))))
 refine ⟨_, (len_map _ _).symm, cE⟩
 exact cK (decide (y8.2 = 6)) (fun i1=>cI) fun i1=>cI
 obtain ⟨p3,h⟩ := need_some h
 obtain ⟨p4,h⟩ := need_some h
 refine Draw.many 12 (.take 1 (.take 2 (.take 4 (.take 5 (.take 6 (.take 7 (.take 8 (.alt 0 (.alt 3 (.alt 9 (.alt 10 (.take 11 (.fin)) (.nil)) (.nil)) (.alt 9 (.alt 3 (.alt 10 (.take 11 (.fin)) (.nil)) (.nil)) (.nil))) (.alt 9 (.alt 0 (.alt 3 (.alt 10 (.take 11 (.fin)) (.nil)) (.nil)) (.nil)) (.nil)))))))))) [] (⟨219, 0, ofRegs [(1, sL encAct l), (5, vB y1), (10, .ptr 2 0), (11, vI a1), (117, sL encBatch ((([] : List Batch) ++ a12) ++ [x1.B])), (118, .ptr 2 10)], [.gone, .gone, .var 70 [sL encFile y8.1.D.Files, vI y8.1.D.Room, vI y8.1.D.Fuse, vB y8.1.D.Off, vI y8.1.From, vI y8.1.Seg, vI y8.1.Run, sL encPair y8.1.S.Data, sL encPair y8.1.S.Toks, vB y8.1.Down, sL encBatch a12, vI a13]]⟩) (by kernel_rfl) ⟨(ix_some q1).1, _, map_get encAct (ix_some q1).2, rfl, ⟨List.map encBatch ([] : List Batch), rfl, ⟨rfl, map_len (f := encBatch) (n := 3) (fun _ => rfl) _, by simp only [List.length_map]; exact p3, List.map encBatch (([] : List Batch) ++ a12), map_app encBatch _ _ rfl rfl, ⟨List.map encBatch [x1.B], rfl, ⟨rfl, rfl, by simp only [List.length_map]; exact p4, List.map encBatch ((([] : List Batch) ++ a12) ++ [x1.B]), map_app encBatch _ _ rfl rfl, go ?_⟩, ⟨⟩⟩, ⟨⟩⟩, ⟨⟨List.map encBatch [x1.B], rfl, ⟨rfl, map_len (f := encBatch) (n := 3) (fun _ => rfl) _, by simp only [List.length_map]; exact p3, List.map encBatch (([] : List Batch) ++ a12), map_app encBatch _ _ rfl rfl, ⟨rfl, rfl, by simp only [List.length_map]; exact p4, List.map encBatch ((([] : List Batch) ++ a12) ++ [x1.B]), map_app encBatch _ _ rfl rfl, go ?_⟩, ⟨⟩⟩, ⟨⟩⟩, ⟨⟩⟩⟩, ⟨⟨List.map encBatch [x1.B], rfl, ⟨List.map encBatch ([] : List Batch), rfl, ⟨rfl, map_len (f := encBatch) (n := 3) (fun _ => rfl) _, by simp only [List.length_map]; exact p3, List.map encBatch (([] : List Batch) ++ a12), map_app encBatch _ _ rfl rfl, ⟨rfl, rfl, by simp only [List.length_map]; exact p4, List.map encBatch ((([] : List Batch) ++ a12) ++ [x1.B]), map_app encBatch _ _ rfl rfl, go ?_⟩, ⟨⟩⟩, ⟨⟩⟩, ⟨⟩⟩, ⟨⟩⟩⟩ cE
 exact Weak.trans (weak_freeze 3 rfl) (wF .rest (.s (.s (.s (.s (.f (.all rfl)))))))
 exact Weak.trans (weak_freeze 3 rfl) (wF .rest (.s (.s (.s (.s (.f (.all rfl)))))))
 exact Weak.trans (weak_freeze 4 rfl) (wF .rest (.s (.s (.s (.s (.f (.all rfl)))))))
 refine cC h rfl (fun c7 h=>go ?_) fun c7 h=>go ?_
 exact cP h kv_Check_walk fun y9 h=>cE
 refine cC h rfl (fun c8 h=>go ?_) fun c8 h=>go ?_
 refine Draw.one 9 (.take 0 (.take 1 (.take 2 (.take 3 (.take 4 (.take 5 (.take 6 (.alt 7 (.take 8 (.fin)) (.nil))))))))) [] (by kernel_rfl) ⟨(ix_some q1).1, _, map_get encAct (ix_some q1).2, rfl, go ?_, ⟨⟩⟩
 exact cP h kv_Arm_walk fun y10 h=>cE
 refine cC h rfl (fun c9 h=>go ?_) fun c9 h=>cE
 refine lQ h (fun s2=>⟨219, 0, ofRegs [(1, sL encAct l), (5, vB y1), (10, .ptr 2 0), (11, vI a1), (15, .row 3 ((List.map (encI .i64) s2.2).length)), (16, vI s2.1)], [.gone, .gone, .var 70 [sL encFile a2, vI a3, vI a4, vB a5, vI a6, vI a7, vI a8, sL encPair a9, sL encPair a10, vB a11, sL encBatch a12, vI a13], .row 3 1 (List.map (encI .i64) s2.2)]⟩) (aO (.exit 3) (fun y11=>⟨219, 0, ofRegs [(1, sL encAct l), (5, vB y1), (10, .ptr 2 0), (11, vI a1), (15, .row 3 ((List.map (encI .i64) y11).length))], [.gone, .gone, .var 70 [sL encFile a2, vI a3, vI a4, vB a5, vI a6, vI a7, vI a8, sL encPair a9, sL encPair a10, vB a11, sL encBatch a12, vI a13], .row 3 1 (List.map (encI .i64) y11)]⟩)) (Weak.trans (weak_nil 15 3 1 rfl) wI) ?_ <|bO fun y11 _ h w=>wk w (go ?_)
 rintro y11 ⟨a14,a15⟩ v6 h r
 replace h : law08_KvLasts_l72 a2 x1 a14 a15 = some v6 := h
 unfold law08_KvLasts_l72 at h
 dsimp only
 refine go ?_
 refine ⟨_, (len_map _ _).symm, go ?_⟩
 refine cC h rfl (fun c10 h=>go ?_) fun c10 h=>xE
 refine ⟨(ix_some q1).1, _, map_get encAct (ix_some q1).2, rfl, List.map (encI .i64) [x1.N], rfl, rfl, rfl, go ?_⟩
 refine nD h fun p5 h=>⟨by simp only [List.length_map]; exact p5, List.map (encI .i64) (a15 ++ [x1.N]), map_app (encI .i64) _ _ rfl rfl, cN⟩
 refine ⟨rfl, go ?_⟩
 refine cP h kv_Crash_walk fun y12 h=>go ?_
 refine cC h rfl (fun c11 h=>cE) fun c11 h=>go ?_
 refine cP h kv_Open_walk fun y13 h=>go ?_
 refine cP h ref08_Same_walk fun y14 h=>gN 1 ?_
 refine k0 ⟨219, 0, ofRegs [(1, sL encAct l), (5, vB y1), (10, .ptr 2 0), (11, vI a1), (17, .ptr 4 0), (185, vB ((!(decide (y12.2 = 0))) || ((!(decide (y13.2 = 0))) || (!y14))))], [.gone, .gone, .var 70 [sL encFile a2, vI a3, vI a4, vB a5, vI a6, vI a7, vI a8, sL encPair a9, sL encPair a10, vB a11, sL encBatch a12, vI a13], .gone, .var 38 (encStore y12.1)]⟩ (go ?_) ((cC h rfl (fun c12 h=>cE) fun c12 h=>go ?_))
 refine cK (!(decide (y12.2 = 0))) (fun i1=>go ?_) fun i1=>go ?_
 exact ⟨rfl, (wF (.s (.s (.s (.g .rest)))) (.s (.s (.s (.s (.s (.q (.all rfl))))))))⟩
 refine cK (!(decide (y13.2 = 0))) (fun i2=>go ?_) fun i2=>go ?_
 exact ⟨rfl, (wF (.s (.s (.s (.g .rest)))) (.s (.s (.s (.s (.s (.q (.all rfl))))))))⟩
 exact ⟨rfl, (wF (.s (.s (.s (.g .rest)))) (.s (.s (.s (.s (.s (.q (.all rfl))))))))⟩
 refine lQ h (fun s3=>⟨219, 0, ofRegs [(1, sL encAct l), (5, vB y1), (10, .ptr 2 0), (11, vI a1), (17, .ptr 4 0), (22, vI s3.1), (23, vI s3.2)], [.gone, .gone, .var 70 [sL encFile a2, vI a3, vI a4, vB a5, vI a6, vI a7, vI a8, sL encPair a9, sL encPair a10, vB a11, sL encBatch a12, vI a13], .gone, .var 38 (encStore y12.1)]⟩) (aO (.exit 5) (fun y15=>⟨219, 0, ofRegs [(1, sL encAct l), (5, vB y1), (10, .ptr 2 0), (11, vI a1), (17, .ptr 4 0), (22, vI y15)], [.gone, .gone, .var 70 [sL encFile a2, vI a3, vI a4, vB a5, vI a6, vI a7, vI a8, sL encPair a9, sL encPair a10, vB a11, sL encBatch a12, vI a13], .gone, .var 38 (encStore y12.1)]⟩)) wA ?_ <|bO fun y15 _ h w=>wk w (go ?_)
 rintro y15 ⟨a16,a17⟩ v7 h r
 replace h : law08_KvLasts_l74 a12 y12 a16 a17 = some v7 := h
 unfold law08_KvLasts_l74 at h
 dsimp only
 refine go ?_
 refine ⟨_, (len_map _ _).symm, go ?_⟩
 refine cC h rfl (fun c13 h=>gN 1 ?_) fun c13 h=>xE
 refine k1 h (fun y16=>⟨219, 0, ofRegs [(1, sL encAct l), (5, vB y1), (10, .ptr 2 0), (11, vI a1), (17, .ptr 4 0), (22, vI y16), (23, vI a17)], [.gone, .gone, .var 70 [sL encFile a2, vI a3, vI a4, vB a5, vI a6, vI a7, vI a8, sL encPair a9, sL encPair a10, vB a11, sL encBatch a12, vI a13], .gone, .var 38 (encStore y12.1)]⟩) (fun y16 h=>go ?_) fun y16 h=>cN
 refine cP h law08_comes_walk fun y17 h=>go ?_
 refine cP h ref07_Same_walk fun y18 h=>gN 0 ?_
 refine k0 ⟨219, 0, ofRegs [(1, sL encAct l), (5, vB y1), (10, .ptr 2 0), (11, vI a1), (17, .ptr 4 0), (22, vI a16), (23, vI a17), (207, vB (y18 && (decide (a16 < 0))))], [.gone, .gone, .var 70 [sL encFile a2, vI a3, vI a4, vB a5, vI a6, vI a7, vI a8, sL encPair a9, sL encPair a10, vB a11, sL encBatch a12, vI a13], .gone, .var 38 (encStore y12.1)]⟩ (go ?_) ?_
 exact cK (y18) (fun i1=>cI) fun i1=>cI
 exact cC h rfl (fun c14 h=>cE) fun c14 h=>cE
 refine cC h rfl (fun c15 h=>cE) fun c15 h=>go ?_
 refine Draw.one 7 (.take 0 (.take 1 (.take 2 (.take 3 (.take 4 (.take 5 (.take 6 (.fin)))))))) [] (by kernel_rfl) ⟨map_len (f := encBatch) (n := 3) (fun _ => rfl) _, go ?_⟩
 refine nD h fun p6 h=>⟨by simpa only [List.length_map] using p6, List.map encBatch (cut a12 0 y15), map_cut _ _ _ _, cE⟩
def law08_KvChecks_l2 (with_ : KvChecksIn) (a1 : Int) (a2 : (List File)) (a3 a4 : Int) (a5 : Bool) (a6 a7 a8 : Int) (a9 a10 : (List Pair)) (a11 : Bool) : Option ((Int × (List File) × Int × Int × Bool × Int × Int × Int × (List Pair) × (List Pair) × Bool) ⊕ ((List File) × Int × Int × Bool × Int × Int × Int × (List Pair) × (List Pair) × Bool)) :=
 if ((decide (a1 < (with_.L.length : Int))) && (decide (a1 < 100))) then
 (ix with_.L a1).bind fun x1 =>
 (kv_Commit ({ D := ({ Files := a2, Room := a3, Fuse := a4, Off := a5 } : Disk), From := a6, Seg := a7, Run := a8, S := ({ Data := a9, Toks := a10 } : State), Down := a11 } : Store) x1).bind fun y1 =>
 some (.inl ((IntKind.i64.wrap (a1 + 1)), y1.1.D.Files, y1.1.D.Room, y1.1.D.Fuse, y1.1.D.Off, y1.1.From, y1.1.Seg, y1.1.Run, y1.1.S.Data, y1.1.S.Toks, y1.1.Down))
 else
 some (.inr (a2, a3, a4, a5, a6, a7, a8, a9, a10, a11))
def law08_KvChecks (with_ : KvChecksIn) : Option (Bool) :=
 law08_shown.bind fun y1 =>
 (ref03_New with_.Room).bind fun y2 =>
 (kv_Open y2.1).bind fun y4 =>
 if ((!(decide (y2.2 = 0))) || (!(decide (y4.2 = 0)))) then
 if y1 then some (!(decide (y2.2 = 0))) else
 some false
 else
 (loop (fun (s1 : Int × (List File) × Int × Int × Bool × Int × Int × Int × (List Pair) × (List Pair) × Bool) => law08_KvChecks_l2 with_ s1.1 s1.2.1 s1.2.2.1 s1.2.2.2.1 s1.2.2.2.2.1 s1.2.2.2.2.2.1 s1.2.2.2.2.2.2.1 s1.2.2.2.2.2.2.2.1 s1.2.2.2.2.2.2.2.2.1 s1.2.2.2.2.2.2.2.2.2.1 s1.2.2.2.2.2.2.2.2.2.2) ((0 : Int), y4.1.D.Files, y4.1.D.Room, y4.1.D.Fuse, y4.1.D.Off, y4.1.From, y4.1.Seg, y4.1.Run, y4.1.S.Data, y4.1.S.Toks, y4.1.Down)).bind fun (y6 : (List File) × Int × Int × Bool × Int × Int × Int × (List Pair) × (List Pair) × Bool) =>
 (kv_Arm ({ D := ({ Files := y6.1, Room := y6.2.1, Fuse := y6.2.2.1, Off := y6.2.2.2.1 } : Disk), From := y6.2.2.2.2.1, Seg := y6.2.2.2.2.2.1, Run := y6.2.2.2.2.2.2.1, S := ({ Data := y6.2.2.2.2.2.2.2.1, Toks := y6.2.2.2.2.2.2.2.2.1 } : State), Down := y6.2.2.2.2.2.2.2.2.2 } : Store) with_.Fuse).bind fun y7 =>
 (kv_Check y7).bind fun y8 =>
 (kv_Crash y8.1 with_.Keeps).bind fun y9 =>
 (ref07_Same ({ Data := y6.2.2.2.2.2.2.2.1, Toks := y6.2.2.2.2.2.2.2.2.1 } : State) y8.1.S).bind fun y10 =>
 if y1 then
 if y10 then
 if (decide (y9.2 = 0)) then
 (ref07_Same ({ Data := y6.2.2.2.2.2.2.2.1, Toks := y6.2.2.2.2.2.2.2.2.1 } : State) y9.1.S).bind fun y11 =>
 some y11
 else
 some false
 else
 some false
 else
 some false
theorem law08_KvChecks_walk {with_ r} (h : law08_KvChecks with_ = some r) : pP 8 [.agg (encKvChecksIn with_)] (vB r) := by
 unfold law08_KvChecks at h
 refine pW0 Tryz.func8 rfl fun g=>go ?_
 refine cP h law08_shown_walk fun y1 h=>go ?_
 refine cP h ref03_New_walk fun y2 h=>go ?_
 refine cP h kv_Open_walk fun y4 h=>gN 1 ?_
 refine k0 ⟨100, 0, ofRegs [(4, sL encBatch with_.L), (5, vI with_.Fuse), (6, sL (encI .i64) with_.Keeps), (7, vB y1), (9, vI y2.2), (10, .ptr 2 0), (42, vB ((!(decide (y2.2 = 0))) || (!(decide (y4.2 = 0)))))], [.gone, .gone, .var 38 (encStore y4.1)]⟩ (go ?_) ((cC h rfl (fun c1 h=>go ?_) fun c1 h=>go ?_))
 refine cK (!(decide (y2.2 = 0))) (fun i1=>go ?_) fun i1=>go ?_
 exact ⟨rfl, (wF (.g (.g .rest)) (.s (.s (.s (.s (.s (.s (.q (.all rfl)))))))))⟩
 exact ⟨rfl, (wF (.g (.g .rest)) (.s (.s (.s (.s (.s (.s (.q (.all rfl)))))))))⟩
 exact cM h (fun c2 h=>eF) fun c2 h=>eF
 refine lQ h (fun s1=>⟨100, 0, ofRegs [(4, sL encBatch with_.L), (5, vI with_.Fuse), (6, sL (encI .i64) with_.Keeps), (7, vB y1), (10, .ptr 2 0), (12, vI s1.1)], [.gone, .gone, .var 38 [sL encFile s1.2.1, vI s1.2.2.1, vI s1.2.2.2.1, vB s1.2.2.2.2.1, vI s1.2.2.2.2.2.1, vI s1.2.2.2.2.2.2.1, vI s1.2.2.2.2.2.2.2.1, sL encPair s1.2.2.2.2.2.2.2.2.1, sL encPair s1.2.2.2.2.2.2.2.2.2.1, vB s1.2.2.2.2.2.2.2.2.2.2]]⟩) (aO (.exit 0) (fun y6=>⟨100, 0, ofRegs [(5, vI with_.Fuse), (6, sL (encI .i64) with_.Keeps), (7, vB y1), (10, .ptr 2 0)], [.gone, .gone, .var 38 [sL encFile y6.1, vI y6.2.1, vI y6.2.2.1, vB y6.2.2.2.1, vI y6.2.2.2.2.1, vI y6.2.2.2.2.2.1, vI y6.2.2.2.2.2.2.1, sL encPair y6.2.2.2.2.2.2.2.1, sL encPair y6.2.2.2.2.2.2.2.2.1, vB y6.2.2.2.2.2.2.2.2.2]]⟩)) wA ?_ <|bO fun y6 _ h w=>wk w (go ?_)
 rintro y6 ⟨a1,a2,a3,a4,a5,a6,a7,a8,a9,a10,a11⟩ v1 h r
 replace h : law08_KvChecks_l2 with_ a1 a2 a3 a4 a5 a6 a7 a8 a9 a10 a11 = some v1 := h
 unfold law08_KvChecks_l2 at h
 dsimp only
 refine gN 1 ?_
 refine k0 ⟨100, 0, ofRegs [(4, sL encBatch with_.L), (5, vI with_.Fuse), (6, sL (encI .i64) with_.Keeps), (7, vB y1), (10, .ptr 2 0), (12, vI a1), (55, vB ((decide (a1 < (with_.L.length : Int))) && (decide (a1 < 100))))], [.gone, .gone, .var 38 [sL encFile a2, vI a3, vI a4, vB a5, vI a6, vI a7, vI a8, sL encPair a9, sL encPair a10, vB a11]]⟩ (go ?_) ((cC h rfl (fun c3 h=>go ?_) fun c3 h=>xE))
 refine ⟨_, (len_map _ _).symm, go ?_⟩
 exact cK (decide (a1 < (with_.L.length : Int))) (fun i1=>cI) fun i1=>cI
 refine Draw.one 10 (.take 1 (.take 2 (.take 3 (.take 4 (.alt 0 (.alt 5 (.take 6 (.take 7 (.take 8 (.alt 9 (.fin) (.nil))))) (.nil)) (.nil)))))) [2, 3, 4, 5, 6, 7, 8] (by kernel_rfl) (go ?_)
 refine bD h fun x1 q1 h=>⟨(ix_some q1).1, _, map_get encBatch (ix_some q1).2, rfl, ⟨go ?_, ⟨⟩⟩, ⟨⟩⟩
 exact cP h kv_Commit_walk fun y7 h=>⟨cN, ⟨⟩⟩
 refine cP h kv_Arm_walk fun y8 h=>go ?_
 refine cP h kv_Check_walk fun y9 h=>go ?_
 refine cP h kv_Crash_walk fun y10 h=>go ?_
 refine cP h ref07_Same_walk fun y11 h=>go ?_
 refine cM h (fun c4 h=>go ?_) fun c4 h=>eF
 refine cM h (fun c5 h=>go ?_) fun c5 h=>eF
 refine cM h (fun c6 h=>go ?_) fun c6 h=>eF
 exact cP h ref07_Same_walk fun y12 h=>eF
def law08_small (x : Store) : Option (Bool) :=
 if (decide (x.Seg ≤ 3000)) then some true else
 if (decide (x.From ≥ (IntKind.i64.wrap (x.Seg - 3000)))) then
 if (decide (x.From ≥ 1)) then some true else
 if (decide (x.Seg > 999000)) then some (decide (x.From > 999000)) else
 some false
 else
 if (decide (x.Seg > 999000)) then some (decide (x.From > 999000)) else
 some false
theorem law08_small_walk {x r} (h : law08_small x = some r) : pP 30 [.agg (encStore x)] (vB r) := by
 unfold law08_small at h
 refine pW0 Tryz.func30 rfl fun g=>go ?_
 refine cM h (fun c1 h=>eF) fun c1 h=>go ?_
 refine cM h (fun c2 h=>go ?_) fun c2 h=>go ?_
 refine cM h (fun c3 h=>eF) fun c3 h=>go ?_
 exact cM h (fun c4 h=>eF) fun c4 h=>eF
 exact cM h (fun c5 h=>eF) fun c5 h=>eF
def ref07_Bytes_l2 (b : Batch) (a1 : Str) (a2 : Int) : Option ((Str × Int) ⊕ (Str)) :=
 if (decide (a2 < (b.Writes.length : Int))) then
 ((ix b.Writes a2).bind fun x1 =>
 if x1.Del then
 need (a1.length + ([49, 59] : Str).length ≤ 9223372036854775807) <|
 some (a1 ++ [49, 59])
 else
 need (a1.length + ([48, 59] : Str).length ≤ 9223372036854775807) <|
 some (a1 ++ [48, 59])).bind fun (y1 : Str) =>
 (ix b.Writes a2).bind fun x2 =>
 (ref01_Text x2.Key).bind fun y2 =>
 need (y1.length + y2.length ≤ 9223372036854775807) <|
 (ref01_Text x2.Val).bind fun y3 =>
 need ((y1 ++ y2).length + y3.length ≤ 9223372036854775807) <|
 some (.inl (((y1 ++ y2) ++ y3), (IntKind.i64.wrap (a2 + 1))))
 else
 some (.inr a1)
def ref07_Bytes (b : Batch) : Option (Str × Int) :=
 (ref07_May b).bind fun y1 =>
 if (!y1) then some ([], 1) else
 (ref01_Num (IntKind.u64.wrap b.Kind)).bind fun y2 =>
 (ref01_Text b.Token).bind fun y3 =>
 need (y2.length + y3.length ≤ 9223372036854775807) <|
 (ref01_Num (IntKind.u64.wrap (b.Writes.length : Int))).bind fun y4 =>
 need ((y2 ++ y3).length + y4.length ≤ 9223372036854775807) <|
 (loop (fun (s1 : Str × Int) => ref07_Bytes_l2 b s1.1 s1.2) (((y2 ++ y3) ++ y4), (0 : Int))).bind fun (y5 : Str) =>
 some (y5, 0)
theorem ref07_Bytes_walk {b r} (h : ref07_Bytes b = some r) : pP 74 [.agg (encBatch b)] (.tup [vS r.1, vI r.2]) := by
 unfold ref07_Bytes at h
 refine pW0 Tryz.func74 rfl fun g=>go ?_
 refine cP h ref07_May_walk fun y1 h=>go ?_
 refine cC h rfl (fun c1 h=>eF) fun c1 h=>go ?_
 refine Draw.one 15 (.take 0 (.take 1 (.take 2 (.take 4 (.take 5 (.take 8 (.take 9 (.take 10 (.take 11 (.alt 3 (.alt 6 (.take 7 (.alt 12 (.take 13 (.take 14 (.fin))) (.nil))) (.nil)) (.nil))))))))))) [] (by kernel_rfl) ⟨(IntKind.u64.wrap b.Kind), rfl, _, (len_map _ _).symm, (IntKind.u64.wrap (b.Writes.length : Int)), rfl, go ?_, ⟨⟩⟩
 refine cP h ref01_Num_walk fun y2 h=>⟨go ?_, ⟨⟩⟩
 refine cP h ref01_Text_walk fun y3 h=>go ?_
 refine nD h fun p1 h=>⟨p1, _, bs_append _ _, go ?_, ⟨⟩⟩
 refine cP h ref01_Num_walk fun y4 h=>go ?_
 refine nD h fun p2 h=>⟨p2, _, bs_append _ _, go ?_⟩
 refine lQ h (fun s1=>⟨60, 0, ofRegs [(1, .ptr 0 0), (5, vS s1.1), (6, vI s1.2)], [.var 25 (encBatch b)]⟩) (aO (.exit 0) (fun y5=>⟨60, 0, ofRegs [(5, vS y5)], []⟩)) wA ?_ <|bO fun y5 _ h w=>wk w eF
 rintro y5 ⟨a1,a2⟩ v1 h r
 replace h : ref07_Bytes_l2 b a1 a2 = some v1 := h
 unfold ref07_Bytes_l2 at h
 dsimp only
 refine go ?_
 refine ⟨_, (len_map _ _).symm, go ?_⟩
 refine cC h rfl (fun c2 h=>gN 3 ?_) fun c2 h=>xE
 refine k1 h (fun y6=>⟨60, 0, ofRegs [(1, .ptr 0 0), (5, vS y6), (6, vI a2)], [.var 25 (encBatch b)]⟩) (fun y6 h=>go ?_) fun y6 h=>go ?_
 refine bD h fun x1 q1 h=>⟨(ix_some q1).1, _, map_get encWrite (ix_some q1).2, rfl, go ?_⟩
 refine cC h rfl (fun c3 h=>go ?_) fun c3 h=>go ?_
 refine nD h fun p3 h=>⟨p3, _, bs_append _ _, cE⟩
 refine nD h fun p4 h=>⟨p4, _, bs_append _ _, cE⟩
 refine Draw.one 18 (.take 0 (.take 1 (.take 2 (.take 3 (.take 4 (.take 5 (.take 6 (.take 9 (.take 10 (.take 11 (.take 12 (.take 13 (.take 14 (.alt 7 (.take 8 (.alt 15 (.take 16 (.take 17 (.fin))) (.nil))) (.nil))))))))))))))) [] (by kernel_rfl) (go ?_)
 refine bD h fun x2 q2 h=>⟨(ix_some q2).1, _, map_get encWrite (ix_some q2).2, rfl, (ix_some q2).1, _, map_get encWrite (ix_some q2).2, rfl, go ?_, ⟨⟩⟩
 refine cP h ref01_Text_walk fun y7 h=>go ?_
 refine nD h fun p5 h=>⟨p5, _, bs_append _ _, go ?_, ⟨⟩⟩
 refine cP h ref01_Text_walk fun y8 h=>go ?_
 refine nD h fun p6 h=>⟨p6, _, bs_append _ _, cN⟩
def ref04_Put (d : Disk) (seg : Int) (rec : Str) : Option (Disk × Int × Int) :=
 if ((decide (seg < 1)) || (decide (seg > 1000000))) then some (d, seg, 1) else
 if (decide ((rec.length : Int) > 2048)) then some (d, seg, 4) else
 (ref04_Name seg).bind fun y1 =>
 (ref03_Read d y1).bind fun y2 =>
 (if (decide ((y2.1.length : Int) ≥ 256)) then
 (ref04_Name seg).bind fun y3 =>
 (ref03_Sync d y3).bind fun y4 =>
 if (!(decide (y4.2 = 0))) then some (.inr (y4.2, y4.1.Files, y4.1.Room, y4.1.Fuse, y4.1.Off)) else
 if (decide (seg = 1000000)) then some (.inr (5, y4.1.Files, y4.1.Room, y4.1.Fuse, y4.1.Off)) else
 some (.inl ((IntKind.i64.wrap (seg + 1)), y4.1.Files, y4.1.Room, y4.1.Fuse, y4.1.Off))
 else
 some (.inl (seg, d.Files, d.Room, d.Fuse, d.Off))).bind fun (y5 : (Int × (List File) × Int × Int × Bool) ⊕ (Int × (List File) × Int × Int × Bool)) =>
 match y5 with
 | (.inl v1) =>
  (ref04_Name v1.1).bind fun y6 =>
  (ref02_Seal rec).bind fun y7 =>
  (ref03_Append ({ Files := v1.2.1, Room := v1.2.2.1, Fuse := v1.2.2.2.1, Off := v1.2.2.2.2 } : Disk) y6 y7).bind fun y8 =>
  some (y8.1, v1.1, y8.2)
 | (.inr v2) =>
 some (({ Files := v2.2.1, Room := v2.2.2.1, Fuse := v2.2.2.2.1, Off := v2.2.2.2.2 } : Disk), seg, v2.1)
theorem ref04_Put_walk {d seg rec r} (h : ref04_Put d seg rec = some r) : pP 75 [.agg (encDisk d), vI seg, vS rec] (.tup [.agg (encDisk r.1), vI r.2.1, vI r.2.2]) := by
 unfold ref04_Put at h
 refine pW0 Tryz.func75 rfl fun g=>gN 3 ?_
 refine k0 ⟨69, 0, ofRegs [(1, vI seg), (2, vS rec), (3, .ptr 0 0), (6, .ptr 1 0), (20, vB ((decide (seg < 1)) || (decide (seg > 1000000))))], [.var 31 (encDisk d), .var 31 [vN, vI 0, vI 0, vB false]]⟩ (go ?_) ((cC h rfl (fun c1 h=>eF) fun c1 h=>go ?_))
 exact cK (decide (seg < 1)) (fun i1=>cI) fun i1=>cI
 refine ⟨(rec.length : Int), rfl, go ?_⟩
 refine cC h rfl (fun c2 h=>eF) fun c2 h=>go ?_
 refine Draw.one 9 (.take 0 (.take 1 (.alt 2 (.alt 3 (.take 4 (.take 5 (.take 6 (.take 7 (.take 8 (.fin)))))) (.nil)) (.nil)))) [] (by kernel_rfl) ⟨go ?_, ⟨⟩⟩
 refine cP h ref04_Name_walk fun y1 h=>⟨go ?_, ⟨⟩⟩
 refine cP h ref03_Read_walk fun y2 h=>gN 0 ?_
 refine kS h (Sum.elim (aO .normal (fun v1=>⟨69, 0, ofRegs [(1, vI v1.1), (2, vS rec), (3, .ptr 0 0), (6, .ptr 1 0)], [.var 31 [sL encFile v1.2.1, vI v1.2.2.1, vI v1.2.2.2.1, vB v1.2.2.2.2], .var 31 [vN, vI 0, vI 0, vB false]]⟩)) (aO .ret (fun v2=>⟨69, 0, ofRegs [(6, .ptr 1 0), (7, vI seg), (8, vI v2.1)], [.gone, .var 31 [sL encFile v2.2.1, vI v2.2.2.1, vI v2.2.2.2.1, vB v2.2.2.2.2]]⟩))) (fun y3 h=>go ?_) <|bE (bO fun v1 _ h w=>wk w (go ?_)) <|bO fun v2 _ h w=>eFw
 refine ⟨(y2.1.length : Int), rfl, go ?_⟩
 refine cC h rfl (fun c3 h=>go ?_) fun c3 h=>cE
 obtain ⟨y4,q1,h⟩ := bind_some h
 obtain ⟨y5,q2,h⟩ := bind_some h
 refine Draw.many 9 (.take 0 (.take 1 (.alt 2 (.alt 3 (.take 4 (.take 5 (.take 6 (.alt 7 (.alt 8 (.fin) (.nil)) (.nil))))) (.alt 7 (.alt 3 (.take 4 (.take 5 (.take 6 (.alt 8 (.fin) (.nil))))) (.nil)) (.nil))) (.alt 7 (.alt 2 (.alt 3 (.take 4 (.take 5 (.take 6 (.alt 8 (.fin) (.nil))))) (.nil)) (.nil)) (.nil))))) [2, 3, 4, 5, 6, 7] (⟨69, 0, ofRegs [(1, vI seg), (2, vS rec), (3, .ptr 0 0), (6, .ptr 1 0), (11, .ptr 2 0), (44, vI y5.2)], [.var 31 (encDisk d), .var 31 [vN, vI 0, vI 0, vB false], .var 31 (encDisk y5.1)]⟩) (by kernel_rfl) ⟨go ?_, ⟨⟨go ?_, ⟨⟩⟩, ⟨⟩⟩⟩ (go ?_)
 refine mP (ref04_Name_walk q1) ⟨go ?_, ⟨⟨go ?_, ⟨⟩⟩, ⟨⟩⟩⟩
 exact mP (ref03_Sync_walk q2) ⟨⟨cA, ⟨⟩⟩, ⟨⟩⟩
 exact mP (ref03_Sync_walk q2) ⟨cA, ⟨⟩⟩
 refine mP (ref04_Name_walk q1) ⟨go ?_, ⟨⟩⟩
 exact mP (ref03_Sync_walk q2) ⟨cA, ⟨⟩⟩
 refine cC h rfl (fun c4 h=>go ?_) fun c4 h=>go ?_
 cases h
 exact ⟨rfl, (wF (.g .rest) (.all rfl))⟩
 refine cC h rfl (fun c5 h=>go ?_) fun c5 h=>cE
 cases h
 exact ⟨rfl, (wF (.g .rest) (.all rfl))⟩
 obtain ⟨y6,q3,h⟩ := bind_some h
 obtain ⟨y7,q4,h⟩ := bind_some h
 obtain ⟨y8,q5,h⟩ := bind_some h
 refine Draw.many 11 (.take 0 (.take 1 (.take 3 (.alt 2 (.alt 4 (.alt 5 (.take 6 (.take 7 (.take 8 (.alt 9 (.alt 10 (.fin) (.nil)) (.nil))))) (.alt 9 (.alt 5 (.take 6 (.take 7 (.take 8 (.alt 10 (.fin) (.nil))))) (.nil)) (.nil))) (.alt 9 (.alt 4 (.alt 5 (.take 6 (.take 7 (.take 8 (.alt 10 (.fin) (.nil))))) (.nil)) (.nil)) (.nil))) (.alt 9 (.alt 2 (.alt 4 (.alt 5 (.take 6 (.take 7 (.take 8 (.alt 10 (.fin) (.nil))))) (.nil)) (.nil)) (.nil)) (.nil)))))) [2, 3, 4, 5, 6, 7] (⟨69, 0, ofRegs [(1, vI v1.1), (6, .ptr 1 0), (13, .ptr 2 0), (65, vI y8.2)], [.var 31 [sL encFile v1.2.1, vI v1.2.2.1, vI v1.2.2.2.1, vB v1.2.2.2.2], .var 31 [vN, vI 0, vI 0, vB false], .var 31 (encDisk y8.1)]⟩) (by kernel_rfl) ⟨go ?_, ⟨⟨go ?_, ⟨⟩⟩, ⟨⟩⟩⟩ eF
 refine mP (ref04_Name_walk q3) ⟨go ?_, ⟨⟨go ?_, ⟨⟩⟩, ⟨⟩⟩⟩
 refine mP (ref02_Seal_walk q4) ⟨go ?_, ⟨⟨go ?_, ⟨⟩⟩, ⟨⟩⟩⟩
 exact mP (ref03_Append_walk q5) ⟨⟨cA, ⟨⟩⟩, ⟨⟩⟩
 exact mP (ref03_Append_walk q5) ⟨cA, ⟨⟩⟩
 refine mP (ref02_Seal_walk q4) ⟨go ?_, ⟨⟩⟩
 exact mP (ref03_Append_walk q5) ⟨cA, ⟨⟩⟩
 refine mP (ref04_Name_walk q3) ⟨go ?_, ⟨⟩⟩
 refine mP (ref02_Seal_walk q4) ⟨go ?_, ⟨⟩⟩
 exact mP (ref03_Append_walk q5) ⟨cA, ⟨⟩⟩
def ref04_Sync (d : Disk) (seg : Int) : Option (Disk × Int) :=
 (ref04_Name seg).bind fun y1 =>
 (ref03_Find d y1).bind fun y2 =>
 if (!y2.2) then some (d, 0) else
 (ref03_Sync d y1).bind fun y3 =>
 some (y3.1, y3.2)
theorem ref04_Sync_walk {d seg r} (h : ref04_Sync d seg = some r) : pP 76 [.agg (encDisk d), vI seg] (.tup [.agg (encDisk r.1), vI r.2]) := by
 unfold ref04_Sync at h
 refine pW0 Tryz.func76 rfl fun g=>go ?_
 obtain ⟨y1,q1,h⟩ := bind_some h
 obtain ⟨y2,q2,h⟩ := bind_some h
 refine Draw.many 9 (.take 0 (.take 1 (.alt 2 (.alt 3 (.take 4 (.take 5 (.take 6 (.alt 7 (.alt 8 (.fin) (.nil)) (.nil))))) (.alt 7 (.alt 3 (.take 4 (.take 5 (.take 6 (.alt 8 (.fin) (.nil))))) (.nil)) (.nil))) (.alt 7 (.alt 2 (.alt 3 (.take 4 (.take 5 (.take 6 (.alt 8 (.fin) (.nil))))) (.nil)) (.nil)) (.nil))))) [2, 3, 4, 5, 6, 7] (⟨24, 0, ofRegs [(1, vI seg), (2, .ptr 0 0), (4, .ptr 1 0), (14, vB y2.2)], [.var 31 (encDisk d), .var 31 [vN, vI 0, vI 0, vB false]]⟩) (by kernel_rfl) ⟨go ?_, ⟨⟨go ?_, ⟨⟩⟩, ⟨⟩⟩⟩ (go ?_)
 refine mP (ref04_Name_walk q1) ⟨go ?_, ⟨⟨go ?_, ⟨⟩⟩, ⟨⟩⟩⟩
 exact mP (ref03_Find_walk q2) ⟨⟨cA, ⟨⟩⟩, ⟨⟩⟩
 exact mP (ref03_Find_walk q2) ⟨cA, ⟨⟩⟩
 refine mP (ref04_Name_walk q1) ⟨go ?_, ⟨⟩⟩
 exact mP (ref03_Find_walk q2) ⟨cA, ⟨⟩⟩
 refine cC h rfl (fun c1 h=>eF) fun c1 h=>go ?_
 refine Draw.one 6 (.take 0 (.take 1 (.alt 2 (.alt 3 (.take 4 (.take 5 (.fin))) (.nil)) (.nil)))) [] (by kernel_rfl) ⟨go ?_, ⟨⟩⟩
 refine mP (ref04_Name_walk q1) ⟨go ?_, ⟨⟩⟩
 exact cP h ref03_Sync_walk fun y3 h=>eF
def ref08_Commit (x : Store) (b : Batch) : Option (Store × Int) :=
 if x.Down then some (x, 6) else
 (ref07_Bytes b).bind fun y1 =>
 if (!(decide (y1.2 = 0))) then some (x, y1.2) else
 (ref07_Decided x.S b.Token).bind fun y2 =>
 if y2.2 then some (x, 8) else
 (ref04_Put x.D x.Seg y1.1).bind fun y4 =>
 (if (decide (y4.2.2 = 0)) then
 (ref04_Sync y4.1 y4.2.1).bind fun y5 =>
 some (y5.2, y5.1.Files, y5.1.Room, y5.1.Fuse, y5.1.Off)
 else
 some (y4.2.2, y4.1.Files, y4.1.Room, y4.1.Fuse, y4.1.Off)).bind fun (y6 : Int × (List File) × Int × Int × Bool) =>
 if (!(decide (y6.1 = 0))) then some (({ D := ({ Files := y6.2.1, Room := y6.2.2.1, Fuse := y6.2.2.2.1, Off := y6.2.2.2.2 } : Disk), From := x.From, Seg := y4.2.1, Run := x.Run, S := x.S, Down := (decide (y6.1 = 6)) } : Store), y6.1) else
 (ref07_Do x.S b).bind fun y8 =>
 some (({ D := ({ Files := y6.2.1, Room := y6.2.2.1, Fuse := y6.2.2.2.1, Off := y6.2.2.2.2 } : Disk), From := x.From, Seg := y4.2.1, Run := x.Run, S := y8.1, Down := x.Down } : Store), 0)
theorem ref08_Commit_walk {x b r} (h : ref08_Commit x b = some r) : pP 31 [.agg (encStore x), .agg (encBatch b)] (.tup [.agg (encStore r.1), vI r.2]) := by
 unfold ref08_Commit at h
 refine pW0 Tryz.func31 rfl fun g=>go ?_
 refine cC h rfl (fun c1 h=>eF) fun c1 h=>go ?_
 refine cP h ref07_Bytes_walk fun y1 h=>go ?_
 refine cC h rfl (fun c3 h=>eF) fun c3 h=>go ?_
 refine cP h ref07_Decided_walk fun y2 h=>go ?_
 refine cC h rfl (fun c4 h=>eF) fun c4 h=>go ?_
 refine cP h ref04_Put_walk fun y4 h=>gN 0 ?_
 refine k1 h (fun y5=>⟨72, 0, ofRegs [(2, .ptr 0 0), (3, .ptr 1 0), (4, .ptr 2 0), (10, vI y5.1)], [.var 38 [sL encFile y5.2.1, vI y5.2.2.1, vI y5.2.2.2.1, vB y5.2.2.2.2, vI x.From, vI y4.2.1, vI x.Run, sL encPair x.S.Data, sL encPair x.S.Toks, vB x.Down], .var 25 (encBatch b), .var 38 [vN, vI 0, vI 0, vB false, vI 0, vI 0, vI 0, vN, vN, vB false]]⟩) (fun y5 h=>go ?_) fun y5 h=>go ?_
 refine cC h rfl (fun c5 h=>go ?_) fun c5 h=>cE
 exact cP h ref04_Sync_walk fun y6 h=>cE
 refine cC h rfl (fun c7 h=>eF) fun c7 h=>go ?_
 exact cP h ref07_Do_walk fun y8 h=>eF
end
end Go.Ab
