/- The program's functions as plain Lean functions, and that the program comes to what they come to. Printed by a program of this session. -/
import Derived.Test.YtgeafeohfiejcaaGreatDoorG3
import Derived.RangeFuncLeaves
import Derived.Shelf.Abstract
import Derived.WalkKit
import Derived.OwnWalkIn
import Derived.TacticsInMore
import Derived.LoopNIn
import Derived.LoopIn
import Derived.Maps.AppendAt
import Derived.RegionIn
namespace Go.Ab
open Go.Proofs
set_option linter.unusedVariables false
set_option linter.unusedSimpArgs false
set_option maxRecDepth 100000
set_option maxHeartbeats 4000000
noncomputable section
def ref03_New (room:Int):Option (Disk×Int):=
 if (decide (room<0)) then some ((⟨[],0,0,false⟩:Disk),1) else
 some ((⟨[],room,(-1),false⟩:Disk),0)
theorem ref03_New_walk {room r} (h:ref03_New room=some r):pP 21 [vI room] (.tup [.agg (aG r.1),vI r.2]):=by
 unfold ref03_New at h
 refine pW0 Tryz.func21 rfl fun g=>go ?_
 exact cC h rfl (fun c1 h=>eF) fun c1 h=>eF
def disk_at_1 (f:File) (v:Str):Option (Bool):=
 some (decide (f.Name=v))
theorem disk_at_1_walk {f v r} (h:disk_at_1 f v=some r):pH 190 [.var 9 [vS v]] [.agg (ar f),.ptr 0 0] (vB r) [.var 9 [vS v]]:=by
 unfold disk_at_1 at h
 refine pC0 Tryz.func190 rfl fun g=>go ?_
 refine ⟨_,bs_eq _ _,go ?_⟩
 exact eP ⟨8,1,ab [(3,vB (decide (f.Name=v)))],[.var 9 [vS v]]⟩ wA
def bP (s:(List File)) (v:Str) (a1:Int):Option ((Int)⊕((Int)⊕(Unit))):=
 if (decide (a1<(s.length:Int))) then
 (ix s a1).bind fun x1=>
 (disk_at_1 x1 v).bind fun y1=>
 if y1 then some (.inr (.inl a1)) else
 some (.inl (IntKind.i64.wrap (a1+1)))
 else
 some (.inr (.inr ()))
def cX (s:(List File)) (v:Str):Option (Int):=
 (loop (fun (s1:Int)=>bP s v s1) (0:Int)).bind fun (y1:(Int)⊕(Unit))=>
 match y1 with
 |(.inl v1)=>
  some v1
 |(.inr v2)=>
 some (-1)
theorem slices_IndexFunc_File__disk_at_1_walk {s v r} (h:cX s v=some r):pH 189 [.var 9 [vS v]] [sL ar s,.fn (.func 190) [] [.ptr 0 0]] (vI r) [.var 9 [vS v]]:=by
 unfold cX at h
 refine pC (G:=⟨tys,[190],[],[]⟩) ct mixed Tryz.func189 rfl fun g=>go ?_
 refine ⟨_,(aA _ _).symm,go ?_⟩
 refine lQ h (fun s1=>⟨19,1,ab [(0,sL ar s),(1,.fn (.func 190) [] [.ptr 0 0]),(7,vI (s.length:Int)),(8,vI s1)],[.var 9 [vS v]]⟩) (Sum.elim (aO .ret (fun v1=>⟨19,1,ab [(4,vI v1)],[.var 9 [vS v]]⟩)) (aO (.exit 0) (fun _=>⟨19,1,ab [],[.var 9 [vS v]]⟩))) wA ?_ <|bE (bO fun v1 _ h w=>go ?_)<|bO fun v2 _ h w=>wk w (go ?_)
 rintro y1 a1 v3 h r
 replace h:bP s v a1=some v3:=h
 unfold bP at h
 refine go ?_
 refine cC h rfl (fun c1 h=>go ?_) fun c1 h=>xE
 refine bD h fun x1 q1 h=>⟨(af q1).1,_,al ar (af q1).2,rfl,go ?_⟩
 refine cU h disk_at_1_walk [0] fun y2 h=>go ?_
 exact cC h rfl (fun c2 h=>xE) fun c2 h=>cN
 exact eP ⟨19,1,ab [(4,vI v1)],[.var 9 [vS v]]⟩ (bl.trans w wA)
 exact eP ⟨19,1,ab [(4,vI (-1))],[.var 9 [vS v]]⟩ wA
def disk_at (d:Disk) (name:Str):Option (Int):=
 (cX d.Files name).bind fun y1=>
 some y1
theorem disk_at_walk {d name r} (h:disk_at d name=some r):pP 145 [.agg (aG d),vS name] (vI r):=by
 unfold disk_at at h
 refine pW (G:=⟨tys,[189],[],[]⟩) ct mixed Tryz.func145 rfl fun g=>go ?_
 exact cU h slices_IndexFunc_File__disk_at_1_walk [1] fun y1 h=>eF
def disk_Find (d:Disk) (name:Str):Option (File×Bool):=
 (disk_at d name).bind fun y1=>
 if (decide (y1<0)) then some ((⟨[],[],[]⟩:File),false) else
 (ix d.Files y1).bind fun x1=>
 some (x1,true)
theorem cg {d name r} (h:disk_Find d name=some r):pP 93 [.agg (aG d),vS name] (.tup [.agg (ar r.1),vB r.2]):=by
 unfold disk_Find at h
 refine pW0 Tryz.func93 rfl fun g=>go ?_
 refine cP h disk_at_walk fun y1 h=>go ?_
 refine cC h rfl (fun c1 h=>eF) fun c1 h=>go ?_
 refine bD h fun x1 q1 h=>⟨(af q1).1,_,al ar (af q1).2,rfl,eF⟩
def disk_Read (d:Disk) (name:Str):Option (Str×Int):=
 (disk_Find d name).bind fun y1=>
 if (!y1.2) then some ([],7) else
 aL (y1.1.Safe.length+y1.1.Wait.length≤9223372036854775807)<|
 some ((y1.1.Safe++y1.1.Wait),0)
theorem disk_Read_walk {d name r} (h:disk_Read d name=some r):pP 61 [.agg (aG d),vS name] (.tup [vS r.1,vI r.2]):=by
 unfold disk_Read at h
 refine pW0 Tryz.func61 rfl fun g=>go ?_
 refine cP h cg fun y1 h=>go ?_
 refine cC h rfl (fun c1 h=>eF) fun c1 h=>go ?_
 refine nD h fun p1 h=>⟨p1,_,dD _ _,eF⟩
def dec_told_l2 (s:Str) (a1 a2:Int):Option ((Int×Int)⊕((Unit)⊕(Int))):=
 if (decide (a2<(s.length:Int))) then
 (ix s a2).bind fun x1=>
 if (decide (a1>(IntKind.u64.wrap (Int.tdiv (IntKind.u64.wrap (18446744073709551615 - (IntKind.u64.wrap (IntKind.u8.wrap ((x1.toNat:Int) - 48))))) 10)))) then some (.inr (.inl ())) else
 some (.inl ((IntKind.u64.wrap ((IntKind.u64.wrap (10*a1))+(IntKind.u64.wrap (IntKind.u8.wrap ((x1.toNat:Int) - 48))))),(IntKind.i64.wrap (a2+1))))
 else
 some (.inr (.inr a1))
def dec_told (s:Str):Option (Int×Bool):=
 (loop (fun (s1:Int×Int)=>dec_told_l2 s s1.1 s1.2) ((0:Int),(0:Int))).bind fun (y1:(Unit)⊕(Int))=>
 match y1 with
 |(.inl v1)=>
  some (0,false)
 |(.inr v2)=>
 some (v2,true)
theorem dec_told_walk {s r} (h:dec_told s=some r):pP 148 [vS s] (.tup [vU r.1,vB r.2]):=by
 unfold dec_told at h
 refine pW0 Tryz.func148 rfl fun g=>go ?_
 refine ⟨(s.length:Int),rfl,go ?_⟩
 refine lQ h (fun s1=>⟨28,0,ab [(0,vS s),(4,vU s1.1),(8,vI (s.length:Int)),(9,vI s1.2)],[]⟩) (Sum.elim (aO .ret (fun _=>⟨28,0,ab [(2,vU 0),(3,vB false)],[]⟩)) (aO (.exit 0) (fun v1=>⟨28,0,ab [(4,vU v1)],[]⟩))) wA ?_ <|bE (bO fun v2 _ h w=>eFw)<|bO fun v1 _ h w=>wk w eF
 rintro y1 ⟨a1,a2⟩ v3 h r
 replace h:dec_told_l2 s a1 a2=some v3:=h
 unfold dec_told_l2 at h
 dsimp only
 refine go ?_
 refine cC h rfl (fun c1 h=>go ?_) fun c1 h=>xE
 refine bD h fun x1 q1 h=>⟨bs_bound q1,_,bs_at q1,(IntKind.u64.wrap (IntKind.u8.wrap ((x1.toNat:Int) - 48))),rfl,go ?_⟩
 refine ⟨by decide,go ?_⟩
 exact cC h rfl (fun c2 h=>xE) fun c2 h=>cN
def dec_TakeNum_l2 (s:Str) (a1:Int):Option ((Int)⊕(Int)):=
 if (decide (a1<(s.length:Int))) then
 ((ix s a1).bind fun x1=>
 if (decide ((x1.toNat:Int)<48)) then some true else
 some (decide ((x1.toNat:Int)>57))).bind fun (y1:Bool)=>
 if y1 then some (.inr a1) else
 some (.inl (IntKind.i64.wrap (a1+1)))
 else
 some (.inr a1)
def dec_TakeNum (s:Str):Option (Int×Str×Int):=
 (loop (fun (s1:Int)=>dec_TakeNum_l2 s s1) (0:Int)).bind fun (y1:Int)=>
 if (decide (y1>20)) then some (0,[],3) else
 aL ((0:Int)≤(0:Int)∧0≤y1∧y1≤(s.length:Int))<|
 (dec_told (cut s 0 y1)).bind fun y2=>
 ((if (decide (y1>1)) then
 (ix s 0).bind fun x1=>
 some (decide ((x1.toNat:Int)=48))
 else
 some false).bind fun (y3:Bool)=>
 if y3 then some (.inl ()) else
 if (!y2.2) then some (.inl ()) else
 (if (decide (y1<(s.length:Int))) then
 if (decide (y1=0)) then some true else
 (ix s y1).bind fun x2=>
 some (!(decide ((x2.toNat:Int)=59)))
 else
 some false).bind fun (y4:Bool)=>
 if y4 then some (.inl ()) else
 if (decide (y1=(s.length:Int))) then some (.inr (.inl ())) else
 some (.inr (.inr ()))).bind fun (y5:(Unit)⊕(Unit)⊕(Unit))=>
 match y5 with
 |(.inl v1)=>
  some (0,[],3)
 |(.inr (.inl v2))=>
  some (0,[],2)
 |(.inr (.inr v3))=>
 aL ((0:Int)≤(IntKind.i64.wrap (y1+1))∧(IntKind.i64.wrap (y1+1))≤(s.length:Int)∧(s.length:Int)≤(s.length:Int))<|
 some (y2.1,(cut s (IntKind.i64.wrap (y1+1)) (s.length:Int)),0)
theorem dec_TakeNum_walk {s r} (h:dec_TakeNum s=some r):pP 95 [vS s] (.tup [vU r.1,vS r.2.1,vI r.2.2]):=by
 unfold dec_TakeNum at h
 refine pW0 Tryz.func95 rfl fun g=>go ?_
 refine lQ h (fun s1=>⟨68,0,ab [(0,vS s),(5,vI s1)],[]⟩) (aO (.exit 0) (fun y1=>⟨68,0,ab [(0,vS s),(5,vI y1)],[]⟩)) wA ?_ <|bO fun y1 _ h w=>wk w (go ?_)
 rintro y1 a1 v1 h r
 replace h:dec_TakeNum_l2 s a1=some v1:=h
 unfold dec_TakeNum_l2 at h
 refine go ?_
 refine ⟨(s.length:Int),rfl,go ?_⟩
 refine cC h rfl (fun c1 h=>gN 4 ?_) fun c1 h=>xE
 refine k1 h (fun y2=>⟨68,0,ab [(0,vS s),(5,vI a1),(14,vB y2)],[]⟩) (fun y2 h=>go ?_) fun y2 h=>?_
 refine bD h fun x1 q1 h=>⟨bs_bound q1,_,bs_at q1,go ?_⟩
 refine cC h rfl (fun c2 h=>cE) fun c2 h=>go ?_
 refine ⟨bs_bound q1,_,bs_at q1,cE⟩
 exact cC h rfl (fun c3 h=>xE) fun c3 h=>cN
 refine cC h rfl (fun c4 h=>eF) fun c4 h=>go ?_
 refine nD h fun p1 h=>⟨p1,bs (cut s 0 y1),bs_cut _ _ _,go ?_⟩
 refine cP h dec_told_walk fun y3 h=>gN 4 ?_
 refine kS h (Sum.elim (aO .normal (fun _=>⟨68,0,ab [],[]⟩)) (Sum.elim (aO (.exit 7) (fun _=>⟨68,0,ab [],[]⟩)) (aO (.exit 3) (fun _=>⟨68,0,ab [(0,vS s),(5,vI y1),(6,vU y3.1)],[]⟩)))) (fun y4 h=>gN 5 ?_)<|bE (bO fun v2 _ h w=>wk w eF) (bE (bO fun v3 _ h w=>wk w eF)<|bO fun v4 _ h w=>wk w (go ?_))
 refine k1 h (fun y5=>⟨68,0,ab [(0,vS s),(5,vI y1),(6,vU y3.1),(7,vB y3.2),(32,vB y5)],[]⟩) (fun y5 h=>go ?_) fun y5 h=>(cC h rfl (fun c5 h=>cE) fun c5 h=>go ?_)
 refine cM h (fun c6 h=>go ?_) fun c6 h=>cE
 refine bD h fun x2 q2 h=>⟨bs_bound q2,_,bs_at q2,cE⟩
 refine cC h rfl (fun c7 h=>cE) fun c7 h=>gN 2 ?_
 refine k1 h (fun y6=>⟨68,0,ab [(0,vS s),(5,vI y1),(6,vU y3.1),(43,vB y6)],[]⟩) (fun y6 h=>go ?_) fun y6 h=>(cC h rfl (fun c8 h=>cE) fun c8 h=>go ?_)
 refine ⟨(s.length:Int),rfl,go ?_⟩
 refine cM h (fun c9 h=>go ?_) fun c9 h=>cE
 refine cM h (fun c10 h=>cE) fun c10 h=>go ?_
 refine bD h fun x3 q3 h=>⟨bs_bound q3,_,bs_at q3,cE⟩
 refine ⟨(s.length:Int),rfl,go ?_⟩
 exact cC h rfl (fun c11 h=>cE) fun c11 h=>cE
 refine cp.one 8 (.k [0,1,2,3,4,5,6,7] .fin) [] (by kernel_rfl) (go ?_)
 refine nD h fun p2 h=>⟨p2,bs (cut s (IntKind.i64.wrap (y1+1)) (s.length:Int)),bs_cut _ _ _,eF⟩
def dec_TakeText (s:Str) (most:Int):Option (Str×Str×Int):=
 (dec_TakeNum s).bind fun y1=>
 if (!(decide (y1.2.2=0))) then some ([],[],y1.2.2) else
 if ((decide (most<0))||(decide (y1.1>(IntKind.u64.wrap most)))) then some ([],[],4) else
 if (decide (y1.1>(IntKind.u64.wrap (y1.2.1.length:Int)))) then some ([],[],2) else
 aL ((0:Int)≤(0:Int)∧0≤y1.1∧y1.1≤(y1.2.1.length:Int))<|
 aL ((0:Int)≤y1.1∧y1.1≤(y1.2.1.length:Int)∧(y1.2.1.length:Int)≤(y1.2.1.length:Int))<|
 some ((cut y1.2.1 0 y1.1),(cut y1.2.1 y1.1 (y1.2.1.length:Int)),0)
theorem dec_TakeText_walk {s most r} (h:dec_TakeText s most=some r):pP 146 [vS s,vI most] (.tup [vS r.1,vS r.2.1,vI r.2.2]):=by
 unfold dec_TakeText at h
 refine pW0 Tryz.func146 rfl fun g=>go ?_
 refine cP h dec_TakeNum_walk fun y1 h=>go ?_
 refine cC h rfl (fun c1 h=>eF) fun c1 h=>(k0 ⟨41,0,ab [(7,vU y1.1),(8,vS y1.2.1),(20,vB ((decide (most<0))||(decide (y1.1>(IntKind.u64.wrap most)))))],[]⟩ (go ?_) ((cC h rfl (fun c2 h=>eF) fun c2 h=>go ?_)))
 exact cK (decide (most<0)) (fun i1=>cI) fun i1=>⟨(IntKind.u64.wrap most),rfl,cI⟩
 refine ⟨(y1.2.1.length:Int),rfl,(IntKind.u64.wrap (y1.2.1.length:Int)),rfl,go ?_⟩
 refine cC h rfl (fun c3 h=>eF) fun c3 h=>go ?_
 refine cp.one 9 (.k [0,1,2,3,4,5,6,7,8] .fin) [] (by kernel_rfl) (go ?_)
 refine nD h fun p1 h=>⟨p1,bs (cut y1.2.1 0 y1.1),bs_cut _ _ _,go ?_⟩
 refine nD h fun p2 h=>⟨p2,bs (cut y1.2.1 y1.1 (y1.2.1.length:Int)),bs_cut _ _ _,eF⟩
def sum_Of_1 (b:Int) (v:(Int×Int)):Option ((Int×Int)):=
 some ((Int.tmod (IntKind.u32.wrap (v.1+(IntKind.u32.wrap b))) 65521),(Int.tmod (IntKind.u32.wrap (v.2+(Int.tmod (IntKind.u32.wrap (v.1+(IntKind.u32.wrap b))) 65521))) 65521))
theorem sum_Of_1_walk {b v r} (h:sum_Of_1 b v=some r):pH 191 [.var 291 [.v (.int .u32 v.1),.v (.int .u32 v.2)]] [vW b,.ptr 0 0] (.tup []) [.var 291 [.v (.int .u32 r.1),.v (.int .u32 r.2)]]:=by
 unfold sum_Of_1 at h
 refine pC0 Tryz.func191 rfl fun g=>go ?_
 refine ⟨by decide,(IntKind.u32.wrap b),rfl,by decide,by decide,go ?_⟩
 refine ⟨by decide,by decide,by decide,by decide,go ?_⟩
 exact eP ⟨17,1,ab [],[.var 291 [.v (.int .u32 (Int.tmod (IntKind.u32.wrap (v.1+(IntKind.u32.wrap b))) 65521)),.v (.int .u32 (Int.tmod (IntKind.u32.wrap (v.2+(Int.tmod (IntKind.u32.wrap (v.1+(IntKind.u32.wrap b))) 65521))) 65521))]]⟩ wA
def sum_Of_l2 (s:Str) (a1 a2 a3:Int):Option ((Int×Int×Int)⊕(Int×Int)):=
 if (decide (a1<(s.length:Int))) then
 (ix s a1).bind fun x1=>
 (sum_Of_1 (x1.toNat:Int) (a2,a3)).bind fun y1=>
 some (.inl ((IntKind.i64.wrap (a1+1)),y1.1,y1.2))
 else
 some (.inr (a2,a3))
def sum_Of (s:Str):Option (Int):=
 (loop (fun (s1:Int×Int×Int)=>sum_Of_l2 s s1.1 s1.2.1 s1.2.2) ((0:Int),(1:Int),(0:Int))).bind fun (y1:Int×Int)=>
 some (IntKind.u32.wrap ((BitVec.ofInt IntKind.u32.bits (IntKind.u32.wrap (y1.2*2^(min (16:Int).toNat IntKind.u32.bits))) ||| BitVec.ofInt IntKind.u32.bits y1.1).toNat:Int))
theorem sum_Of_walk {s r} (h:sum_Of s=some r):pP 147 [vS s] (.v (.int .u32 r)):=by
 unfold sum_Of at h
 refine pW (G:=⟨tys,[191],[],[]⟩) ct mixed Tryz.func147 rfl fun g=>go ?_
 refine ⟨(s.length:Int),rfl,go ?_⟩
 refine lQ h (fun s1=>⟨25,0,ab [(0,vS s),(3,.ptr 0 0),(4,.fn (.func 191) [] [.ptr 0 0]),(9,vI (s.length:Int)),(10,vI s1.1)],[.var 291 [.v (.int .u32 s1.2.1),.v (.int .u32 s1.2.2)]]⟩) (aO (.exit 0) (fun y1=>⟨25,0,ab [(3,.ptr 0 0)],[.var 291 [.v (.int .u32 y1.1),.v (.int .u32 y1.2)]]⟩)) wA ?_ <|bO fun y1 _ h w=>wk w (go ?_)
 rintro y1 ⟨a1,a2,a3⟩ v1 h r
 replace h:sum_Of_l2 s a1 a2 a3=some v1:=h
 unfold sum_Of_l2 at h
 dsimp only
 refine go ?_
 refine cC h rfl (fun c1 h=>go ?_) fun c1 h=>xE
 refine bD h fun x1 q1 h=>⟨bs_bound q1,_,bs_at q1,go ?_⟩
 exact cU h sum_Of_1_walk [0] fun y2 h=>cN
 refine ⟨by decide,by decide,by decide,eF⟩
def sum_Open (f:Str) (most:Int):Option (Str×Str×Int):=
 (dec_TakeText f most).bind fun y1=>
 if (!(decide (y1.2.2=0))) then some ([],[],y1.2.2) else
 (dec_TakeNum y1.2.1).bind fun y2=>
 if (!(decide (y2.2.2=0))) then some ([],[],y2.2.2) else
 (sum_Of y1.1).bind fun y3=>
 if (!(decide (y2.1=(IntKind.u64.wrap y3)))) then some ([],[],10) else
 some (y1.1,y2.2.1,0)
theorem sum_Open_walk {f most r} (h:sum_Open f most=some r):pP 94 [vS f,vI most] (.tup [vS r.1,vS r.2.1,vI r.2.2]):=by
 unfold sum_Open at h
 refine pW0 Tryz.func94 rfl fun g=>go ?_
 refine cP h dec_TakeText_walk fun y1 h=>go ?_
 refine cC h rfl (fun c1 h=>eF) fun c1 h=>go ?_
 refine cP h dec_TakeNum_walk fun y2 h=>go ?_
 refine cC h rfl (fun c2 h=>eF) fun c2 h=>go ?_
 refine cP h sum_Of_walk fun y3 h=>⟨(IntKind.u64.wrap y3),rfl,go ?_⟩
 exact cC h rfl (fun c3 h=>eF) fun c3 h=>eF
def kv_TakeManifest (s:Str):Option (Int×Int×Int):=
 (sum_Open s 65536).bind fun y1=>
 (dec_TakeNum y1.1).bind fun y2=>
 (dec_TakeNum y2.2.1).bind fun y4=>
 if ((!(decide (y1.2.2=0)))||((!(decide (y2.2.2=0)))||((!(decide (y4.2.2=0)))||((!decide (y1.2.1=[]))||((!decide (y4.2.1=[]))||((decide (y2.1<1))||((decide (y2.1>1000000))||(decide (y4.1>1000000))))))))) then some (0,0,3) else
 some ((IntKind.i64.wrap y2.1),(IntKind.i64.wrap y4.1),0)
theorem kv_TakeManifest_walk {s r} (h:kv_TakeManifest s=some r):pP 62 [vS s] (.tup [vI r.1,vI r.2.1,vI r.2.2]):=by
 unfold kv_TakeManifest at h
 refine pW0 Tryz.func62 rfl fun g=>go ?_
 refine cP h sum_Open_walk fun y1 h=>go ?_
 refine cP h dec_TakeNum_walk fun y2 h=>go ?_
 refine cP h dec_TakeNum_walk fun y4 h=>gN 1 ?_
 refine k0 ⟨64,0,ab [(8,vU y2.1),(10,vU y4.1),(59,vB ((!(decide (y1.2.2=0)))||((!(decide (y2.2.2=0)))||((!(decide (y4.2.2=0)))||((!decide (y1.2.1=[]))||((!decide (y4.2.1=[]))||((decide (y2.1<1))||((decide (y2.1>1000000))||(decide (y4.1>1000000))))))))))],[]⟩ (go ?_) ((cC h rfl (fun c1 h=>eF) fun c1 h=>go ?_))
 refine cK (!(decide (y1.2.2=0))) (fun i1=>cI) fun i1=>go ?_
 refine cK (!(decide (y2.2.2=0))) (fun i2=>cI) fun i2=>go ?_
 refine cK (!(decide (y4.2.2=0))) (fun i3=>cI) fun i3=>⟨_,bs_ne _ _,go ?_⟩
 refine cK (!decide (y1.2.1=[])) (fun i4=>cI) fun i4=>⟨_,bs_ne _ _,go ?_⟩
 refine cK (!decide (y4.2.1=[])) (fun i5=>cI) fun i5=>go ?_
 refine cK (decide (y2.1<1)) (fun i6=>cI) fun i6=>go ?_
 exact cK (decide (y2.1>1000000)) (fun i7=>cI) fun i7=>cI
 refine ⟨(IntKind.i64.wrap y2.1),rfl,(IntKind.i64.wrap y4.1),rfl,eF⟩
def dec_Num_l1 (a1 a2:Int) (a3:(List Int)):Option ((Int×Int×(List Int))⊕(Str)):=
 aL (a3.length=21)<|
 (ix a3 (IntKind.i64.wrap (a2 - 1))).bind fun x1=>
 if (decide ((IntKind.u64.wrap (Int.tdiv a1 10))=0)) then
 aL ((List.set a3 ((IntKind.i64.wrap (a2 - 1))).toNat (IntKind.u8.wrap (48+(IntKind.u8.wrap (Int.tmod a1 10))))).length=21)<|
 aL ((0:Int)≤(IntKind.i64.wrap (a2 - 1))∧(IntKind.i64.wrap (a2 - 1))≤(21:Int)∧(21:Int)≤(21:Int))<|
 some (.inr (List.map u8 (cut (List.set a3 ((IntKind.i64.wrap (a2 - 1))).toNat (IntKind.u8.wrap (48+(IntKind.u8.wrap (Int.tmod a1 10))))) (IntKind.i64.wrap (a2 - 1)) (21:Int))))
 else
 some (.inl ((IntKind.u64.wrap (Int.tdiv a1 10)),(IntKind.i64.wrap (a2 - 1)),(List.set a3 ((IntKind.i64.wrap (a2 - 1))).toNat (IntKind.u8.wrap (48+(IntKind.u8.wrap (Int.tmod a1 10)))))))
def dec_Num (v:Int):Option (Str):=
 aL ((List.replicate 21 (0:Int)).length=21)<|
 (ix (List.replicate 21 (0:Int)) 20).bind fun x1=>
 (loop (fun (s1:Int×Int×(List Int))=>dec_Num_l1 s1.1 s1.2.1 s1.2.2) (v,(20:Int),(List.set (List.replicate 21 (0:Int)) (20:Int).toNat 59))).bind fun (y1:Str)=>
 some y1
theorem dec_Num_walk {v r} (h:dec_Num v=some r):pP 121 [vU v] (vS r):=by
 unfold dec_Num at h
 refine pW0 Tryz.func121 rfl fun g=>gN 7 ?_
 refine dz.weak (show bl _ ⟨22,0,ab [(0,vU v),(2,vS []),(3,.rptr 1 ((List.map (ax .u8) (List.replicate 21 (0:Int))).length) 1 (0) 0),(4,vI 20)],[.gone,.row 263 1 (List.map (ax .u8) (List.replicate 21 (0:Int)))]⟩ from bl.trans (weak_arr 3 0 263 21 _ rfl rfl rfl rfl rfl rfl) wA) (go ?_)
 obtain ⟨p1,h⟩:=au h
 obtain ⟨x1,q1,h⟩:=bind_some h
 refine ⟨⟨by simp,by first|(simp;done)|simpa using p1,(bX q1).1,by have:=bX q1;simp only [List.length_map,List.length_set,List.length_replicate,List.length_cons,List.length_nil] at*;omega⟩,?_⟩
 refine ⟨rfl,_,al (ax .u8) (af q1).2,Nat.le_of_ble_eq_true rfl,List.map (ax .u8) (List.set (List.replicate 21 (0:Int)) (20:Int).toNat 59),map_set (ax .u8) _ _ _ rfl,go ?_⟩
 refine lQ h (fun s1=>⟨22,0,ab [(0,vU s1.1),(3,.rptr 1 ((List.map (ax .u8) s1.2.2).length) 1 (0) 0),(4,vI s1.2.1)],[.gone,.row 263 1 (List.map (ax .u8) s1.2.2)]⟩) (aO .ret (fun y1=>⟨22,0,ab [(2,vS y1)],[]⟩)) wI ?_ <|bO fun y1 _ h w=>eFw
 rintro y1 ⟨a1,a2,a3⟩ v1 h r
 replace h:dec_Num_l1 a1 a2 a3=some v1:=h
 unfold dec_Num_l1 at h
 dsimp only
 refine go ?_
 refine ⟨by decide,(IntKind.u8.wrap (Int.tmod a1 10)),rfl,go ?_⟩
 obtain ⟨p2,h⟩:=au h
 obtain ⟨x3,q2,h⟩:=bind_some h
 refine ⟨⟨by simp,by first|(simp;done)|simpa using p2,(bX q2).1,by have:=bX q2;simp only [List.length_map,List.length_set,List.length_replicate,List.length_cons,List.length_nil] at*;omega⟩,?_⟩
 refine ⟨rfl,_,al (ax .u8) (af q2).2,Nat.le_of_ble_eq_true rfl,List.map (ax .u8) (List.set a3 ((IntKind.i64.wrap (a2 - 1))).toNat (IntKind.u8.wrap (48+(IntKind.u8.wrap (Int.tmod a1 10))))),map_set (ax .u8) _ _ _ rfl,go ?_⟩
 refine ⟨by decide,go ?_⟩
 refine cC h rfl (fun c1 h=>gN 1 ?_) fun c1 h=>go ?_
 refine dz.weak (show bl _ ⟨22,0,ab [(0,vU (IntKind.u64.wrap (Int.tdiv a1 10))),(3,.rptr 1 ((List.map (ax .u8) a3).length) 1 (0) 0),(4,vI (IntKind.i64.wrap (a2 - 1))),(7,vI a2),(8,vI (IntKind.i64.wrap (a2 - 1))),(9,vI (IntKind.i64.wrap (a2 - 1))),(10,vU a1),(11,vU (Int.tmod a1 10)),(12,vW (IntKind.u8.wrap (Int.tmod a1 10))),(13,vW (IntKind.u8.wrap (48+(IntKind.u8.wrap (Int.tmod a1 10))))),(14,.rptr 1 ((List.map (ax .u8) a3).length) 1 (((IntKind.i64.wrap (a2 - 1))).toNat) 0),(15,vU a1),(16,vU (IntKind.u64.wrap (Int.tdiv a1 10))),(17,vU (IntKind.u64.wrap (Int.tdiv a1 10))),(18,vB true)],[.gone,.frz 1 (List.map (ax .u8) (List.set a3 ((IntKind.i64.wrap (a2 - 1))).toNat (IntKind.u8.wrap (48+(IntKind.u8.wrap (Int.tmod a1 10))))))]⟩ from bl.trans (aK 1 rfl) wA) (go ?_)
 obtain ⟨p3,h⟩:=au h
 refine ⟨⟨by simp,by first|(simp;done)|simpa using p3,by have:=p3;simp only [List.length_map,List.length_set] at*;omega⟩,?_⟩
 refine go ?_
 obtain ⟨p4,h⟩:=au h
 refine ⟨⟨p4.1,p4.2.1,p4.2.2⟩,?_⟩
 exact ⟨List.map (ax .u8) (cut (List.set a3 ((IntKind.i64.wrap (a2 - 1))).toNat (IntKind.u8.wrap (48+(IntKind.u8.wrap (Int.tmod a1 10))))) (IntKind.i64.wrap (a2 - 1)) (21:Int)),map_cut _ _ _ _,(cut (List.set a3 ((IntKind.i64.wrap (a2 - 1))).toNat (IntKind.u8.wrap (48+(IntKind.u8.wrap (Int.tmod a1 10))))) (IntKind.i64.wrap (a2 - 1)) (21:Int)),rfl,_,ofInts_eq _,xE⟩
 cases h
 exact ⟨_,rfl,wI⟩
def dn (s suffix:Str):Option (Bool):=
 if (decide ((s.length:Int)≥(suffix.length:Int))) then
 aL ((0:Int)≤(IntKind.i64.wrap ((s.length:Int) - (suffix.length:Int)))∧(IntKind.i64.wrap ((s.length:Int) - (suffix.length:Int)))≤(s.length:Int)∧(s.length:Int)≤(s.length:Int))<|
 some (decide ((cut s (IntKind.i64.wrap ((s.length:Int) - (suffix.length:Int))) (s.length:Int))=suffix))
 else
 some false
theorem internal_stringslite_HasSuffix_walk {s suffix r} (h:dn s suffix=some r):pP 214 [vS s,vS suffix] (vB r):=by
 unfold dn at h
 refine pW0 Tryz.func214 rfl fun g=>go ?_
 refine ⟨(s.length:Int),rfl,(suffix.length:Int),rfl,go ?_⟩
 refine cM h (fun c1 h=>⟨(s.length:Int),rfl,(suffix.length:Int),rfl,go ?_⟩) fun c1 h=>eF
 refine nD h fun p1 h=>⟨p1,bs (cut s (IntKind.i64.wrap ((s.length:Int) - (suffix.length:Int))) (s.length:Int)),bs_cut _ _ _,_,bs_eq _ _,eF⟩
def dg (s suffix:Str):Option (Str):=
 (dn s suffix).bind fun y1=>
 if y1 then
 aL ((0:Int)≤(0:Int)∧0≤(IntKind.i64.wrap ((s.length:Int) - (suffix.length:Int)))∧(IntKind.i64.wrap ((s.length:Int) - (suffix.length:Int)))≤(s.length:Int))<|
 some (cut s 0 (IntKind.i64.wrap ((s.length:Int) - (suffix.length:Int))))
 else
 some s
theorem internal_stringslite_TrimSuffix_walk {s suffix r} (h:dg s suffix=some r):pP 193 [vS s,vS suffix] (vS r):=by
 unfold dg at h
 refine pW0 Tryz.func193 rfl fun g=>go ?_
 refine cP h internal_stringslite_HasSuffix_walk fun y1 h=>go ?_
 refine cC h rfl (fun c1 h=>go ?_) fun c1 h=>eF
 refine ⟨(s.length:Int),rfl,(suffix.length:Int),rfl,go ?_⟩
 refine nD h fun p1 h=>⟨p1,bs (cut s 0 (IntKind.i64.wrap ((s.length:Int) - (suffix.length:Int)))),bs_cut _ _ _,eF⟩
def strings_TrimSuffix (s suffix:Str):Option (Str):=
 (dg s suffix).bind fun y1=>
 some y1
theorem strings_TrimSuffix_walk {s suffix r} (h:strings_TrimSuffix s suffix=some r):pP 152 [vS s,vS suffix] (vS r):=by
 unfold strings_TrimSuffix at h
 refine pW0 Tryz.func152 rfl fun g=>go ?_
 exact cP h internal_stringslite_TrimSuffix_walk fun y1 h=>eF
def kv_number (letter:Str) (n:Int):Option (Str):=
 (dec_Num (IntKind.u64.wrap n)).bind fun y1=>
 (strings_TrimSuffix y1 [59]).bind fun y2=>
 aL (letter.length+y2.length≤9223372036854775807)<|
 some (letter++y2)
theorem kv_number_walk {letter n r} (h:kv_number letter n=some r):pP 150 [vS letter,vI n] (vS r):=by
 unfold kv_number at h
 refine pW0 Tryz.func150 rfl fun g=>go ?_
 refine ⟨(IntKind.u64.wrap n),rfl,go ?_⟩
 refine cP h dec_Num_walk fun y1 h=>go ?_
 refine cP h strings_TrimSuffix_walk fun y2 h=>go ?_
 refine nD h fun p1 h=>⟨p1,_,dD _ _,eF⟩
def kv_RunName (n:Int):Option (Str):=
 if ((decide (n<1))||(decide (n>1000000))) then some ([]:Str) else
 (kv_number [114] n).bind fun y1=>
 some y1
theorem kv_RunName_walk {n r} (h:kv_RunName n=some r):pP 97 [vI n] (vS r):=by
 unfold kv_RunName at h
 refine pW0 Tryz.func97 rfl fun g=>gN 3 ?_
 refine k0 ⟨11,0,ab [(0,vI n),(8,vB ((decide (n<1))||(decide (n>1000000))))],[]⟩ (go ?_) ((cC h rfl (fun c1 h=>eF) fun c1 h=>go ?_))
 exact cK (decide (n<1)) (fun i1=>cI) fun i1=>cI
 exact cP h kv_number_walk fun y1 h=>eF
def table_Right_l2 (l:(List Pair)) (a1:Int):Option ((Int)⊕((Unit)⊕(Unit))):=
 if (decide (a1<(l.length:Int))) then
 (ix l (IntKind.i64.wrap (a1 - 1))).bind fun x1=>
 (ix l a1).bind fun x2=>
 if (!ltS x1.Key x2.Key) then some (.inr (.inl ())) else
 some (.inl (IntKind.i64.wrap (a1+1)))
 else
 some (.inr (.inr ()))
def table_Right (l:(List Pair)):Option (Bool):=
 (loop (fun (s1:Int)=>table_Right_l2 l s1) (1:Int)).bind fun (y1:(Unit)⊕(Unit))=>
 match y1 with
 |(.inl v1)=>
  some false
 |(.inr v2)=>
 some true
theorem table_Right_walk {l r} (h:table_Right l=some r):pP 202 [sL ac l] (vB r):=by
 unfold table_Right at h
 refine pW0 Tryz.func202 rfl fun g=>go ?_
 refine lQ h (fun s1=>⟨22,0,ab [(0,sL ac l),(3,vI s1)],[]⟩) (Sum.elim (aO .ret (fun _=>⟨22,0,ab [(2,vB false)],[]⟩)) (aO (.exit 0) (fun _=>⟨22,0,ab [],[]⟩))) wA ?_ <|bE (bO fun v1 _ h w=>eFw)<|bO fun v2 _ h w=>wk w eF
 rintro y1 a1 v3 h r
 replace h:table_Right_l2 l a1=some v3:=h
 unfold table_Right_l2 at h
 refine go ?_
 refine ⟨_,(aA _ _).symm,go ?_⟩
 refine cC h rfl (fun c1 h=>go ?_) fun c1 h=>xE
 refine cp.one 12 (.k [0,1,2,3,4,5,6,7,8,9,10,11] .fin) [] (by kernel_rfl) (go ?_)
 refine bD h fun x1 q1 h=>⟨(af q1).1,_,al ac (af q1).2,rfl,go ?_⟩
 refine bD h fun x2 q2 h=>⟨(af q2).1,_,al ac (af q2).2,rfl,(!ltS x1.Key x2.Key),bs_ge _ _,go ?_⟩
 exact cC h rfl (fun c2 h=>xE) fun c2 h=>cN
def run_may_1 (p:Pair):Option (Bool):=
 if (decide ((p.Key.length:Int)>65536)) then some true else
 some (decide ((p.Val.length:Int)>65536))
theorem run_may_1_walk {p r} (h:run_may_1 p=some r):pP 201 [.agg (ac p)] (vB r):=by
 unfold run_may_1 at h
 refine pW0 Tryz.func201 rfl fun g=>go ?_
 refine ⟨(p.Key.length:Int),rfl,go ?_⟩
 exact cM h (fun c1 h=>eF) fun c1 h=>⟨(p.Val.length:Int),rfl,eF⟩
def bm (s:(List Pair)) (a1:Int):Option ((Int)⊕((Int)⊕(Unit))):=
 if (decide (a1<(s.length:Int))) then
 (ix s a1).bind fun x1=>
 (run_may_1 x1).bind fun y1=>
 if y1 then some (.inr (.inl a1)) else
 some (.inl (IntKind.i64.wrap (a1+1)))
 else
 some (.inr (.inr ()))
def cW (s:(List Pair)):Option (Int):=
 (loop (fun (s1:Int)=>bm s s1) (0:Int)).bind fun (y1:(Int)⊕(Unit))=>
 match y1 with
 |(.inl v1)=>
  some v1
 |(.inr v2)=>
 some (-1)
theorem slices_IndexFunc_Pair__run_may_1_walk {s r} (h:cW s=some r):pH 161 [] [sL ac s,.fn (.func 201) [] []] (vI r) []:=by
 unfold cW at h
 refine pC0 Tryz.func161 rfl fun g=>go ?_
 refine ⟨_,(aA _ _).symm,go ?_⟩
 refine lQ h (fun s1=>⟨19,0,ab [(0,sL ac s),(1,.fn (.func 201) [] []),(7,vI (s.length:Int)),(8,vI s1)],[]⟩) (Sum.elim (aO .ret (fun v1=>⟨19,0,ab [(4,vI v1)],[]⟩)) (aO (.exit 0) (fun _=>⟨19,0,ab [],[]⟩))) wA ?_ <|bE (bO fun v1 _ h w=>go ?_)<|bO fun v2 _ h w=>wk w (go ?_)
 rintro y1 a1 v3 h r
 replace h:bm s a1=some v3:=h
 unfold bm at h
 refine go ?_
 refine cC h rfl (fun c1 h=>go ?_) fun c1 h=>xE
 refine bD h fun x1 q1 h=>⟨(af q1).1,_,al ac (af q1).2,rfl,go ?_⟩
 refine cP h run_may_1_walk fun y2 h=>go ?_
 exact cC h rfl (fun c2 h=>xE) fun c2 h=>cN
 exact eP ⟨19,0,ab [(4,vI v1)],[]⟩ (bl.trans w wA)
 exact eP ⟨19,0,ab [(4,vI (-1))],[]⟩ wA
def bR (s:(List Pair)):Option (Bool):=
 (cW s).bind fun y1=>
 some (decide (y1≥0))
theorem slices_ContainsFunc_Pair__run_may_1_walk {s r} (h:bR s=some r):pH 203 [] [sL ac s,.fn (.func 201) [] []] (vB r) []:=by
 unfold bR at h
 refine pC (G:=⟨tys,[161],[],[]⟩) ct mixed Tryz.func203 rfl fun g=>go ?_
 refine cU h slices_IndexFunc_Pair__run_may_1_walk [] fun y1 h=>go ?_
 exact eP ⟨9,0,ab [(4,vB (decide (y1≥0)))],[]⟩ wA
def run_may (l:(List Pair)):Option (Bool):=
 (table_Right l).bind fun y1=>
 if y1 then
 (bR l).bind fun y2=>
 some (!y2)
 else
 some false
theorem run_may_walk {l r} (h:run_may l=some r):pP 165 [sL ac l] (vB r):=by
 unfold run_may at h
 refine pW (G:=⟨tys,[203],[],[]⟩) ct mixed Tryz.func165 rfl fun g=>go ?_
 refine cP h table_Right_walk fun y1 h=>go ?_
 refine cM h (fun c1 h=>go ?_) fun c1 h=>eF
 exact cU h slices_ContainsFunc_Pair__run_may_1_walk [] fun y2 h=>eF
def run_Take_l2 (y1:Int×Str×Int) (a1:Str) (a2:Int) (a3:(List Pair)):Option ((Str×Int×(List Pair))⊕(Str×(List Pair))):=
 if (decide (a2<y1.1)) then
 (dec_TakeText a1 65536).bind fun y2=>
 if (!(decide (y2.2.2=0))) then some (.inr (a1,a3)) else
 (dec_TakeText y2.2.1 65536).bind fun y4=>
 if (!(decide (y4.2.2=0))) then some (.inr (a1,a3)) else
 aL ((a3.length+1)*32≤140737488355328)<|
 some (.inl (y4.2.1,(IntKind.u64.wrap (a2+1)),(a3++[(⟨y2.1,y4.1⟩:Pair)])))
 else
 some (.inr (a1,a3))
def run_Take (s:Str):Option ((List Pair)×Int):=
 (sum_Open s 1073741824).bind fun y1=>
 (dec_TakeNum y1.1).bind fun y2=>
 if ((!(decide (y1.2.2=0)))||((!(decide (y2.2.2=0)))||(!decide (y1.2.1=[])))) then some ([],3) else
 (loop (fun (s1:Str×Int×(List Pair))=>run_Take_l2 y2 s1.1 s1.2.1 s1.2.2) (y2.2.1,(0:Int),([]:(List Pair)))).bind fun (y4:Str×(List Pair))=>
 (if (!(decide ((IntKind.u64.wrap (y4.2.length:Int))=y2.1))) then some true else
 if (!decide (y4.1=[])) then some true else
 (run_may y4.2).bind fun y5=>
 some (!y5)).bind fun (y6:Bool)=>
 if y6 then some ([],3) else
 some (y4.2,0)
theorem run_Take_walk {s r} (h:run_Take s=some r):pP 149 [vS s] (.tup [sL ac r.1,vI r.2]):=by
 unfold run_Take at h
 refine pW0 Tryz.func149 rfl fun g=>go ?_
 refine cP h sum_Open_walk fun y1 h=>go ?_
 refine cP h dec_TakeNum_walk fun y2 h=>gN 1 ?_
 refine k0 ⟨78,0,ab [(4,vS y2.2.1),(7,vU y2.1),(35,vB ((!(decide (y1.2.2=0)))||((!(decide (y2.2.2=0)))||(!decide (y1.2.1=[])))))],[]⟩ (go ?_) ((cC h rfl (fun c1 h=>eF) fun c1 h=>go ?_))
 refine cK (!(decide (y1.2.2=0))) (fun i1=>cI) fun i1=>go ?_
 exact cK (!(decide (y2.2.2=0))) (fun i2=>cI) fun i2=>⟨_,bs_ne _ _,cI⟩
 refine lQ h (fun s1=>⟨78,0,ab [(4,vS s1.1),(7,vU y2.1),(9,.row 0 ((List.map ac s1.2.2).length)),(36,vU y2.1),(37,vU s1.2.1)],[.row 103 2 (List.map ac s1.2.2)]⟩) (aO (.exit 0) (fun y4=>⟨78,0,ab [(4,vS y4.1),(7,vU y2.1),(9,.row 0 ((List.map ac y4.2).length))],[.row 103 2 (List.map ac y4.2)]⟩)) (bl.trans (weak_nil 9 103 2 rfl) wI) ?_ <|bO fun y4 _ h w=>wk w (gN 1 ?_)
 rintro y4 ⟨a1,a2,a3⟩ v1 h r
 replace h:run_Take_l2 y2 a1 a2 a3=some v1:=h
 unfold run_Take_l2 at h
 dsimp only
 refine go ?_
 refine cC h rfl (fun c2 h=>go ?_) fun c2 h=>xE
 refine cP h dec_TakeText_walk fun y5 h=>go ?_
 refine cC h rfl (fun c3 h=>xE) fun c3 h=>go ?_
 refine cP h dec_TakeText_walk fun y6 h=>go ?_
 refine cC h rfl (fun c4 h=>xE) fun c4 h=>go ?_
 refine ⟨List.map ac [(⟨y5.1,y6.1⟩:Pair)],rfl,rfl,rfl,go ?_⟩
 refine nD h fun p1 h=>⟨by simp only [List.length_map];exact p1,List.map ac (a3++[(⟨y5.1,y6.1⟩:Pair)]),dk ac _ _ rfl rfl,cN⟩
 refine k1 h (fun y7=>⟨78,0,ab [(9,.row 0 ((List.map ac y4.2).length)),(76,vB y7)],[.row 103 2 (List.map ac y4.2)]⟩) (fun y7 h=>go ?_) fun y7 h=>?_
 refine ⟨rfl,(y4.2.length:Int),by simp,(IntKind.u64.wrap (y4.2.length:Int)),rfl,go ?_⟩
 refine cM h (fun c5 h=>cE) fun c5 h=>⟨_,bs_ne _ _,go ?_⟩
 refine cM h (fun c6 h=>cE) fun c6 h=>⟨rfl,go ?_⟩
 exact cP h run_may_walk fun y8 h=>cE
 exact cC h rfl (fun c7 h=>eF) fun c7 h=>eF
def run_Load (d:Disk) (name:Str):Option ((List Pair)×Int):=
 (disk_Read d name).bind fun y1=>
 if (!(decide (y1.2=0))) then some ([],y1.2) else
 (run_Take y1.1).bind fun y2=>
 some (y2.1,y2.2)
theorem run_Load_walk {d name r} (h:run_Load d name=some r):pP 96 [.agg (aG d),vS name] (.tup [sL ac r.1,vI r.2]):=by
 unfold run_Load at h
 refine pW0 Tryz.func96 rfl fun g=>go ?_
 refine cP h disk_Read_walk fun y1 h=>go ?_
 refine cC h rfl (fun c1 h=>eF) fun c1 h=>go ?_
 exact cP h run_Take_walk fun y2 h=>eF
def dp (s prefix_:Str):Option (Bool):=
 if (decide ((s.length:Int)≥(prefix_.length:Int))) then
 aL ((0:Int)≤(0:Int)∧0≤(prefix_.length:Int)∧(prefix_.length:Int)≤(s.length:Int))<|
 some (decide ((cut s 0 (prefix_.length:Int))=prefix_))
 else
 some false
theorem internal_stringslite_HasPrefix_walk {s prefix_ r} (h:dp s prefix_=some r):pP 213 [vS s,vS prefix_] (vB r):=by
 unfold dp at h
 refine pW0 Tryz.func213 rfl fun g=>go ?_
 refine ⟨(s.length:Int),rfl,(prefix_.length:Int),rfl,go ?_⟩
 refine cM h (fun c1 h=>⟨(prefix_.length:Int),rfl,go ?_⟩) fun c1 h=>eF
 refine nD h fun p1 h=>⟨p1,bs (cut s 0 (prefix_.length:Int)),bs_cut _ _ _,_,bs_eq _ _,eF⟩
def dq (s prefix_:Str):Option (Str×Bool):=
 (dp s prefix_).bind fun y1=>
 if (!y1) then some (s,false) else
 aL ((0:Int)≤(prefix_.length:Int)∧(prefix_.length:Int)≤(s.length:Int)∧(s.length:Int)≤(s.length:Int))<|
 some ((cut s (prefix_.length:Int) (s.length:Int)),true)
theorem internal_stringslite_CutPrefix_walk {s prefix_ r} (h:dq s prefix_=some r):pP 192 [vS s,vS prefix_] (.tup [vS r.1,vB r.2]):=by
 unfold dq at h
 refine pW0 Tryz.func192 rfl fun g=>go ?_
 refine cP h internal_stringslite_HasPrefix_walk fun y1 h=>go ?_
 refine cC h rfl (fun c1 h=>eF) fun c1 h=>go ?_
 refine ⟨(prefix_.length:Int),rfl,go ?_⟩
 refine nD h fun p1 h=>⟨p1,bs (cut s (prefix_.length:Int) (s.length:Int)),bs_cut _ _ _,eF⟩
def strings_CutPrefix (s prefix_:Str):Option (Str×Bool):=
 (dq s prefix_).bind fun y1=>
 some (y1.1,y1.2)
theorem strings_CutPrefix_walk {s prefix_ r} (h:strings_CutPrefix s prefix_=some r):pP 151 [vS s,vS prefix_] (.tup [vS r.1,vB r.2]):=by
 unfold strings_CutPrefix at h
 refine pW0 Tryz.func151 rfl fun g=>go ?_
 exact cP h internal_stringslite_CutPrefix_walk fun y1 h=>eF
def batch_Back_l2 (l:(List Pair)) (a1:Int) (a2 a3:(List Pair)):Option ((Int×(List Pair)×(List Pair))⊕((Unit)⊕((List Pair)×(List Pair)))):=
 if (decide (a1<(l.length:Int))) then
 ((ix l a1).bind fun x1=>
 (strings_CutPrefix x1.Key [100]).bind fun y1=>
 if (y1.2&&(decide ((a3.length:Int)=0))) then
 aL ((a2.length+1)*32≤140737488355328)<|
 some (.inl ((a2++[(⟨y1.1,x1.Val⟩:Pair)]),a3))
 else
 (strings_CutPrefix x1.Key [116]).bind fun y2=>
 if ((!y2.2)||((!decide (x1.Val=[99]))&&(!decide (x1.Val=[103])))) then some (.inr ()) else
 aL ((a3.length+1)*32≤140737488355328)<|
 some (.inl (a2,(a3++[(⟨y2.1,x1.Val⟩:Pair)])))).bind fun (y3:((List Pair)×(List Pair))⊕(Unit))=>
 match y3 with
 |(.inl v1)=>
  some (.inl ((IntKind.i64.wrap (a1+1)),v1.1,v1.2))
 |(.inr v2)=>
 some (.inr (.inl ()))
 else
 some (.inr (.inr (a2,a3)))
def batch_Back (l:(List Pair)):Option (State×Int):=
 (loop (fun (s1:Int×(List Pair)×(List Pair))=>batch_Back_l2 l s1.1 s1.2.1 s1.2.2) ((0:Int),([]:(List Pair)),([]:(List Pair)))).bind fun (y1:(Unit)⊕((List Pair)×(List Pair)))=>
 match y1 with
 |(.inl v1)=>
  some ((⟨[],[]⟩:State),3)
 |(.inr v2)=>
 some ((⟨v2.1,v2.2⟩:State),0)
theorem batch_Back_walk {l r} (h:batch_Back l=some r):pP 98 [sL ac l] (.tup [.agg (encState r.1),vI r.2]):=by
 unfold batch_Back at h
 refine pW0 Tryz.func98 rfl fun g=>go ?_
 refine ⟨_,(aA _ _).symm,go ?_⟩
 refine lQ h (fun s1=>⟨69,0,ab [(2,.ptr 0 0),(4,.ptr 1 0),(11,sL ac l),(12,vI (l.length:Int)),(13,vI s1.1)],[.var 29 [.row 2 ((List.map ac []).length),.row 3 ((List.map ac []).length)],.var 29 [.row 4 ((List.map ac s1.2.1).length),.row 5 ((List.map ac s1.2.2).length)],.row 103 2 (List.map ac []),.row 103 2 (List.map ac []),.row 103 2 (List.map ac s1.2.1),.row 103 2 (List.map ac s1.2.2)]⟩) (Sum.elim (aO .ret (fun _=>⟨69,0,ab [(2,.ptr 0 0),(3,vI 3)],[.var 29 [vN,vN]]⟩)) (aO (.exit 0) (fun v1=>⟨69,0,ab [(2,.ptr 0 0),(4,.ptr 1 0)],[.var 29 [.row 2 ((List.map ac []).length),.row 3 ((List.map ac []).length)],.var 29 [.row 4 ((List.map ac v1.1).length),.row 5 ((List.map ac v1.2).length)],.row 103 2 (List.map ac []),.row 103 2 (List.map ac []),.row 103 2 (List.map ac v1.1),.row 103 2 (List.map ac v1.2)]⟩))) (bl.trans (dF 0 0 103 2 rfl rfl) (bl.trans (dF 0 1 103 2 rfl rfl) (bl.trans (dF 1 0 103 2 rfl rfl) (bl.trans (dF 1 1 103 2 rfl rfl) (wF (.cons (.var (.cons (.same (show (.row 2 0:AV)=(.row 2 ((List.map ac []).length):AV) from congrArg (AV.row 2) (by simp))) (.cons (.same (show (.row 3 0:AV)=(.row 3 ((List.map ac []).length):AV) from congrArg (AV.row 3) (by simp))) (.nil)))) (.cons (.var (.cons (.same (show (.row 4 0:AV)=(.row 4 ((List.map ac []).length):AV) from congrArg (AV.row 4) (by simp))) (.cons (.same (show (.row 5 0:AV)=(.row 5 ((List.map ac []).length):AV) from congrArg (AV.row 5) (by simp))) (.nil)))) .rest)) (.all rfl)))))) ?_ <|bE (bO fun v2 _ h w=>eFw)<|bO fun v1 _ h w=>wk w eF
 rintro y1 ⟨a1,a2,a3⟩ v3 h r
 replace h:batch_Back_l2 l a1 a2 a3=some v3:=h
 unfold batch_Back_l2 at h
 dsimp only
 refine go ?_
 refine cC h rfl (fun c1 h=>gN 1 ?_) fun c1 h=>xE
 refine kS h (Sum.elim (aO .normal (fun v4=>⟨69,0,ab [(2,.ptr 0 0),(4,.ptr 1 0),(11,sL ac l),(12,vI (l.length:Int)),(13,vI a1)],[.var 29 [.row 2 ((List.map ac []).length),.row 3 ((List.map ac []).length)],.var 29 [.row 4 ((List.map ac v4.1).length),.row 5 ((List.map ac v4.2).length)],.row 103 2 (List.map ac []),.row 103 2 (List.map ac []),.row 103 2 (List.map ac v4.1),.row 103 2 (List.map ac v4.2)]⟩)) (aO .ret (fun _=>⟨69,0,ab [(2,.ptr 0 0),(3,vI 3)],[.var 29 [vN,vN]]⟩))) (fun y2 h=>go ?_)<|bE (bO fun v4 _ h w=>wk w cN)<|bO fun v5 _ h w=>xEw
 refine bD h fun x1 q1 h=>⟨(af q1).1,_,al ac (af q1).2,rfl,go ?_⟩
 refine cP h strings_CutPrefix_walk fun y3 h=>gN 0 ?_
 refine k0 ⟨69,0,ab [(2,.ptr 0 0),(4,.ptr 1 0),(6,.ptr 6 0),(7,vS y3.1),(11,sL ac l),(12,vI (l.length:Int)),(13,vI a1),(29,vB (y3.2&&(decide ((a3.length:Int)=0))))],[.var 29 [.row 2 ((List.map ac []).length),.row 3 ((List.map ac []).length)],.var 29 [.row 4 ((List.map ac a2).length),.row 5 ((List.map ac a3).length)],.row 103 2 (List.map ac []),.row 103 2 (List.map ac []),.row 103 2 (List.map ac a2),.row 103 2 (List.map ac a3),.var 103 (ac x1)]⟩ (go ?_) ((cC h rfl (fun c2 h=>go ?_) fun c2 h=>go ?_))
 exact cK (y3.2) (fun i1=>⟨rfl,(a3.length:Int),by simp,cI⟩) fun i1=>cI
 refine ⟨List.map ac [(⟨y3.1,x1.Val⟩:Pair)],rfl,rfl,rfl,go ?_⟩
 refine nD h fun p1 h=>⟨by simp only [List.length_map];exact p1,List.map ac (a2++[(⟨y3.1,x1.Val⟩:Pair)]),dk ac _ _ rfl rfl,cE⟩
 refine cP h strings_CutPrefix_walk fun y4 h=>gN 1 ?_
 refine k0 ⟨69,0,ab [(2,.ptr 0 0),(4,.ptr 1 0),(6,.ptr 6 0),(9,vS y4.1),(11,sL ac l),(12,vI (l.length:Int)),(13,vI a1),(56,vB ((!y4.2)||((!decide (x1.Val=[99]))&&(!decide (x1.Val=[103])))))],[.var 29 [.row 2 ((List.map ac []).length),.row 3 ((List.map ac []).length)],.var 29 [.row 4 ((List.map ac a2).length),.row 5 ((List.map ac a3).length)],.row 103 2 (List.map ac []),.row 103 2 (List.map ac []),.row 103 2 (List.map ac a2),.row 103 2 (List.map ac a3),.var 103 (ac x1)]⟩ (go ?_) ((cC h rfl (fun c3 h=>cE) fun c3 h=>go ?_))
 refine cK (!y4.2) (fun i1=>cI) fun i1=>⟨_,bs_ne _ _,go ?_⟩
 exact cK (!decide (x1.Val=[99])) (fun i2=>⟨_,bs_ne _ _,cI⟩) fun i2=>cI
 refine ⟨List.map ac [(⟨y4.1,x1.Val⟩:Pair)],rfl,rfl,rfl,go ?_⟩
 refine nD h fun p2 h=>⟨by simp only [List.length_map];exact p2,List.map ac (a3++[(⟨y4.1,x1.Val⟩:Pair)]),dk ac _ _ rfl rfl,cE⟩
def kv_based (d:Disk) (n:Int):Option (State×Int):=
 if (decide (n=0)) then some ((⟨[],[]⟩:State),0) else
 (kv_RunName n).bind fun y1=>
 (run_Load d y1).bind fun y2=>
 if (!(decide (y2.2=0))) then some ((⟨[],[]⟩:State),3) else
 (batch_Back y2.1).bind fun y3=>
 some (y3.1,y3.2)
theorem kv_based_walk {d n r} (h:kv_based d n=some r):pP 63 [.agg (aG d),vI n] (.tup [.agg (encState r.1),vI r.2]):=by
 unfold kv_based at h
 refine pW0 Tryz.func63 rfl fun g=>go ?_
 refine cC h rfl (fun c1 h=>eF) fun c1 h=>go ?_
 refine cp.one 9 (.k [0,1] (.o 2 (.o 3 (.k [4,5,6,7,8] .fin)))) [] (by kernel_rfl) ⟨go ?_,⟨⟩⟩
 refine cP h kv_RunName_walk fun y1 h=>⟨go ?_,⟨⟩⟩
 refine cP h run_Load_walk fun y2 h=>go ?_
 refine cC h rfl (fun c3 h=>eF) fun c3 h=>go ?_
 exact cP h batch_Back_walk fun y3 h=>eF
def wal_may (seg:Int):Option (Bool):=
 if (decide (seg≥1)) then some (decide (seg≤1000000)) else
 some false
theorem wal_may_walk {seg r} (h:wal_may seg=some r):pP 99 [vI seg] (vB r):=by
 unfold wal_may at h
 refine pW0 Tryz.func99 rfl fun g=>go ?_
 exact cM h (fun c1 h=>eF) fun c1 h=>eF
def wal_Name (seg:Int):Option (Str):=
 (wal_may seg).bind fun y1=>
 if (!y1) then some ([]:Str) else
 (dec_Num (IntKind.u64.wrap seg)).bind fun y2=>
 (strings_TrimSuffix y2 [59]).bind fun y3=>
 aL (([119]:Str).length+y3.length≤9223372036854775807)<|
 some ([119]++y3)
theorem bp {seg r} (h:wal_Name seg=some r):pP 100 [vI seg] (vS r):=by
 unfold wal_Name at h
 refine pW0 Tryz.func100 rfl fun g=>go ?_
 refine cP h wal_may_walk fun y1 h=>go ?_
 refine cC h rfl (fun c1 h=>eF) fun c1 h=>go ?_
 refine ⟨(IntKind.u64.wrap seg),rfl,go ?_⟩
 refine cP h dec_Num_walk fun y2 h=>go ?_
 refine cP h strings_TrimSuffix_walk fun y3 h=>go ?_
 refine nD h fun p1 h=>⟨p1,_,dD _ _,eF⟩
section
open Go.RowKit Go.Shelf
attribute [local go_sem] Oper.semAt_some
noncomputable def wal_Scan_l1 (s:Str) (a1:List Str) (a2:Int) (a3:Str):Option ((List Str×Int×Str)⊕(List Str×Int)):=
 (sum_Open a3 2048).bind fun y=>
 if (!(decide (y.2.2=0))) then some (.inr (a1,a2)) else
 aL ((a1.length+1)*16≤140737488355328)<|
 some (.inl ((a1++[y.1]),IntKind.i64.wrap ((s.length:Int) - (y.2.1.length:Int)),y.2.1))
noncomputable def wal_Scan (s:Str):Option (List Str×Int):=
 (loop (fun (s1:List Str×Int×Str)=>wal_Scan_l1 s s1.1 s1.2.1 s1.2.2) (([]:List Str),(0:Int),s))
inductive ScanR (s:Str):Str→List (Int×Str)→Prop
 |stop {rest y} (h:sum_Open rest 2048=some y) (hy:y.2.2≠0):ScanR s rest []
 |next {rest y xs} (h:sum_Open rest 2048=some y) (hy:y.2.2=0) (r:ScanR s y.2.1 xs):ScanR s rest ((IntKind.i64.wrap ((s.length:Int) - (y.2.1.length:Int)),y.1)::xs)
theorem ScanR.unique {s:Str}: ∀ {rest:Str} {xs ys:List (Int×Str)},ScanR s rest xs→ScanR s rest ys→xs=ys
 |_,_,_,.stop h hy,.stop h2 hy2=>rfl
 |_,_,_,.stop h hy,.next h2 hy2 _=>by rw [h] at h2;cases h2;exact absurd hy2 hy
 |_,_,_,.next h hy _,.stop h2 hy2=>by rw [h] at h2;cases h2;exact absurd hy hy2
 |_,_,_,.next h hy r,.next h2 hy2 r2=>by rw [h] at h2;cases h2;rw [ScanR.unique r r2]
def lastAt (g:Int) (xs:List (Int×Str)):Int:=xs.foldl (fun _ p=>p.1) g
theorem lastAt_snoc (g:Int) (xs:List (Int×Str)) (x:Int×Str):lastAt g (xs++[x])=x.1:=by simp [lastAt]
theorem scan_runs (s:Str): ∀(n:Nat) (l:List Str) (g:Int) (rest:Str) (r:List Str×Int),loopN (fun (s1:List Str×Int×Str)=>wal_Scan_l1 s s1.1 s1.2.1 s1.2.2) n (l,g,rest)=some r→
 ∃xs,ScanR s rest xs∧r=(l++xs.map (·.2),lastAt g xs)∧(xs≠[]→(l.length+xs.length)*16≤140737488355328):=by
 intro n
 induction n with
 |zero=>intro l g rest r h;simp [loopN] at h
 |succ n ih=>
  intro l g rest r h
  unfold loopN at h
  simp only at h
  cases hz:wal_Scan_l1 s l g rest with
  |none=>rw [hz] at h;cases h
  |some z=>
  rw [hz] at h
  unfold wal_Scan_l1 at hz
  obtain ⟨y,hy,hz⟩:=bind_some hz
  by_cases he:y.2.2=0
  ·rw [if_neg (by simp [he])] at hz
   obtain ⟨hb,hz⟩:=au hz
   obtain rfl:=Option.some.inj hz
   obtain ⟨xs,h1,h2,h3⟩:=ih _ _ _ _ h
   refine ⟨_,.next hy he h1,?_,fun _=> ?_⟩
   ·rw [h2];simp [lastAt]
   ·by_cases hx:xs=[]
    ·subst hx;simpa using hb
    ·have:=h3 hx;simp at this⊢;omega
  ·rw [if_pos (by simp [he])] at hz
   obtain rfl:=Option.some.inj hz
   obtain rfl:=Option.some.inj h
   exact ⟨[],.stop hy he,by simp [lastAt],fun h=>absurd rfl h⟩
open Classical in
noncomputable def scanLeft (s:Str) (v:Value):Nat:=
 if h: ∃r:Str×List (Int×Str),v= .string (bs r.1)∧ScanR s r.1 r.2 then (Classical.choose h).2.length else 0
theorem scanLeft_eq {s rest:Str} {xs:List (Int×Str)} (h:ScanR s rest xs):scanLeft s (.string (bs rest))=xs.length:=by
 have hex: ∃r:Str×List (Int×Str),Value.string (bs rest)= .string (bs r.1)∧ScanR s r.1 r.2:=⟨(rest,xs),rfl,h⟩
 unfold scanLeft
 rw [dif_pos hex]
 obtain ⟨e,hl⟩:=Classical.choose_spec hex
 injection e with e
 rw [←bs_inj e] at hl
 rw [ScanR.unique hl h]
theorem open_calls {f:Str} {y:Str×Str×Int} (h:sum_Open f 2048=some y) (w:World) (hG:GW w):Calls Tryz.prog 94 #[.string (bs f),.int .i64 2048] w fun en w'=>en= .returned (.tuple #[.string (bs y.1),.string (bs y.2.1),.int .i64 y.2.2])∧w.grownBy w' none:=
 (sum_Open_walk h).calls rfl rfl w hG
def KeepG (B:Nat) (t:TypeId) (X Y:World):Prop:=KeepBox B t X Y∧(GW X→GW Y)
theorem keepG_t {B:Nat} {t:TypeId} {X Y Z:World} (h:KeepG B t X Y) (k:KeepG B t Y Z):KeepG B t X Z:=⟨keepBox_t h.1 k.1,fun g=>k.2 (h.2 g)⟩
theorem keepG_b {B n:Nat} {t:TypeId} {w0:World} (hG:GW w0) (h0:w0.heap.size≤n) (W:World) (l:Nat) (o o':Obj) (hn:n≤l) (hl:W.heap[l]? =some o) (hc:o.isCells=false) (hw:o.isWalk=false):KeepG B t W (W.putObj l o'):=
 ⟨keepBox_b W l o o' hn hl hc hw,fun g=>gw_same g fun b hb hb2=>(grownBy_putObj' W l o').block b hb (fun e=>by
   injection e with e
   exact hb2 (gn_new hG (by omega)))⟩
theorem gw_grown {X Y:World} (h:GW X) (g:X.grownBy Y none):GW Y:=gw_same h fun b hb _=>g.block b hb (by simp)
set_option maxRecDepth 100000 in
set_option maxHeartbeats 2000000 in
theorem each1_in (l B B0:Nat) (s:Str) (xs:List (Int×Str)) (J Jx:List (Int×Str)→World→Prop) (hJ:AbidesFrom B0 J)
 (hY: ∀pre x W,J pre W→pre.length<xs.length→YieldAt Fence.wide 4 Tryz.prog l #[.int .i64 x.1,.string (bs x.2)] W fun e W'=>
   (e= .returned (.bool true)∧J (pre++[x]) W'∧KeepG B 9 W W')∨(e= .returned (.bool false)∧Jx (pre++[x]) W'))
 (W:World) (hBn:Boxed W B 9 (.string (bs s))) (hx:ScanR s s xs) (h0:J [] W) (hG:GW W):
 CallsIn Fence.wide 5 Tryz.prog 194 #[.func (.yield l) #[] #[],.pointer (some ⟨B,0,none⟩)] W fun e W'=>(∃v,e= .returned v)∧
  ((∃ys,ys=xs∧J ys W')∨(∃pre,pre<+:xs∧Jx pre W')):=by
 refine callsIn_of_wp Tryz.func194 rfl trivial ?_ rfl
 simp only [Tryz.ntmps194,List.size_toArray,List.length_cons,List.length_nil,Nat.reduceAdd,Nat.reduceSub,Array.replicate_succ,Array.replicate_zero,List.push_toArray,List.append_toArray,List.nil_append,List.cons_append]
 have hBc:=hBn.cell
 gi_wp2
 gi_loopw [3] (fun p wr=> ∃(pre rest:List (Int×Str)) (q:Str),p= .string (bs q)∧xs=pre++rest∧ScanR s q rest∧J pre wr∧Boxed wr B 9 (.string (bs s))∧GW wr)
  (fun p wr=>scanLeft s p)
 case atStart=>
  exact ⟨[],xs,s,rfl,rfl,hx,h0,hBn,hG⟩
 case round=>
  obtain ⟨pre,rest,q,rfl,hx,hl,hJs,hb,hGr⟩:=hrel
  have hc:=hb.cell
  cases hl with
  |stop h hy=>
   have ho:=open_calls h
   gi_wp2_with (refine ⟨trivial,?_⟩;gi_at_call 94;refine (callsIn_wide.2 (ho _ hGr)).mono ?_;rintro e w' ⟨rfl,hg⟩)
   refine bodyPost_ret (results_none rfl _ _ _) rfl ?_
   exact ⟨⟨_,rfl⟩,.inl ⟨pre,by simp [hx],hJ pre wr w' none hJs hg (fun _ h=>by cases h)⟩⟩
  | @next _ y xs' h hy hr=>
    have ho:=open_calls h
    gi_wp2
    refine ⟨trivial,?_⟩
    gi_at_call 94
    refine (callsIn_wide.2 (ho _ hGr)).mono ?_
    rintro e w' ⟨rfl,hg⟩
    have hb':=hb.kept hg (by simp)
    have hc':=hb'.cell
    obtain ⟨fn,tmps,assign,body,hyy,hR⟩:=hY pre (IntKind.i64.wrap ((s.length:Int) - (y.2.1.length:Int)),y.1) w' (hJ pre wr w' none hJs hg (fun _ h=>by cases h)) (by rw [hx];simp)
    replace hyy:(Instr.yield l #[.int .i64 (wrap64 (((bs s).size:Int) - ((bs y.2.1).size:Int))),.string (bs y.1)]).run Tryz.prog w'= .ok (.round l fn tmps assign body) w':=by rw [←Go.IntWalk.i64_left];exact hyy
    gi_wp2
    refine hR.mono ?_
    rintro e W3 (⟨rfl,hJ3,hk3⟩|⟨rfl,hJx3⟩)
    ·gi_wp2
     go_roundw
     case rel=>exact ⟨pre++[(IntKind.i64.wrap ((s.length:Int) - (y.2.1.length:Int)),y.1)],xs',y.2.1,rfl,by simp [hx],hr,hJ3,hk3.1 _ hb',hk3.2 (gw_grown hGr hg)⟩
     case measure=>rw [scanLeft_eq hr,scanLeft_eq (.next h hy hr)];simp
    ·gi_wp2
     refine bodyPost_ret (results_none rfl _ _ _) rfl ?_
     exact ⟨⟨_,rfl⟩,.inr ⟨pre++[(IntKind.i64.wrap ((s.length:Int) - (y.2.1.length:Int)),y.1)],⟨xs',by simp [hx]⟩,hJx3⟩⟩
set_option maxRecDepth 100000 in
set_option maxHeartbeats 1000000 in
theorem each_in (s:Str) (w:World):
 CallsIn Fence.wide 5 Tryz.prog 153 #[.string (bs s)] w fun e w'=>e= .returned (.func (.func 194) #[] #[.pointer (some ⟨w.heap.size,0,none⟩)])∧w'=w.alloc (.cells #[.string (bs s)] 9):=by
 refine callsIn_of_wp Tryz.func153 rfl trivial ?_ rfl
 simp only [Tryz.ntmps153,List.size_toArray,List.length_cons,List.length_nil,Nat.reduceAdd,Nat.reduceSub,Array.replicate_succ,Array.replicate_zero,List.push_toArray,List.append_toArray,List.nil_append,List.cons_append]
 gi_wp2
 go_ret
 exact ⟨rfl,rfl⟩
theorem each_stops (B:Nat) (s:Str) (xs:List (Int×Str)) (w:World) (hc:Boxed w B 9 (.string (bs s))) (hx:ScanR s s xs) (hG:GW w):
 SeqStopsK Fence.wide 5 Tryz.prog 194 #[.pointer (some ⟨B,0,none⟩)] (fun x:Int×Str=> #[Value.int .i64 x.1,.string (bs x.2)]) (KeepG B 9) (fun ys=>ys=xs) (fun pre=>pre<+:xs) xs.length w:=fun l J Jx W hW hJ _ hY h0=>
 each1_in l B W.heap.size s xs J Jx hJ hY W ((hW.block B hc.lt).trans hc) hx h0 (gw_same hG fun b hb _=>hW.block b hb)
theorem scan_info:(Tryz.prog.info? 9).map (fun i=>(i.zero,i.size,i.bytes))=some (some (.string ByteArray.empty),1,16):=by kernel_rfl
set_option maxRecDepth 100000 in
set_option maxHeartbeats 4000000 in
theorem scanIn (s:Str) (xs:List (Int×Str)) (hx:ScanR s s xs) (hbytes:xs.length*16≤140737488355328) (w:World) (hG:GW w):
 CallsIn Fence.wide 6 Tryz.prog 101 #[.string (bs s)] w fun e W'=> ∃v,e= .returned (.tuple #[v,.int .i64 (lastAt 0 xs)])∧W'.ownsRow w.heap.size 9 1 v xs.length (xs.map fun x=>Value.string (bs x.2))∧Below w.heap.size w W':=by
 have h1:1≤6:=by omega
 obtain ⟨i0,hi,hz0,hz1,hz2⟩:=info_parts scan_info
 refine callsIn_of_wp_marks Tryz.func101 rfl trivial ?_ rfl
 simp only [Tryz.ntmps101,List.size_toArray,List.length_cons,List.length_nil,Nat.reduceAdd,Nat.reduceSub,Array.replicate_succ,Array.replicate_zero,List.push_toArray,List.append_toArray,List.nil_append,List.cons_append]
 gi_wp2_with (refine ⟨trivial,?_⟩;gi_at_call 153;refine (each_in s _).mono ?_;rintro e w' ⟨rfl,rfl⟩)
 have bO:=Boxed.new w 142 (.slice none 0 0)
 have bG:=Boxed.new (w.alloc (.cells #[.slice none 0 0] 142)) 3 (.int .i64 0)
 rw [World.size_alloc] at bG
 have bN:=Boxed.new ((w.alloc (.cells #[.slice none 0 0] 142)).alloc (.cells #[.int .i64 0] 3)) 9 (.string (bs s))
 rw [World.size_alloc,World.size_alloc] at bN
 have hB0:Below w.heap.size w (((w.alloc (.cells #[.slice none 0 0] 142)).alloc (.cells #[.int .i64 0] 3)).alloc (.cells #[.string (bs s)] 9)):=(((Below.refl _ w).alloc (Nat.le_refl _) _).alloc (by simp) _).alloc (by simp;omega) _
 refine wpIn_rangeFunc_ownG rfl h1 (gf:=194) (lb:= #[.pointer (some ⟨w.heap.size+1+1,0,none⟩)]) rfl trivial (enters_of Tryz.func194 (by kernel_rfl) rfl)
  (each_stops (w.heap.size+1+1) s xs _ bN hx (gw_same hG fun b hb _=>hB0.block b hb)) keepG_t (keepG_b hG hB0.size) (Below.refl _ _) (fun _=>rfl)
  (fun (pre:List (Int×Str)) W=>(∃v,Boxed W w.heap.size 142 v∧W.ownsRow (w.heap.size+1+1+1) 9 1 v pre.length (pre.map fun x=>Value.string (bs x.2))∧True)∧Boxed W (w.heap.size+1) 3 (.int .i64 (lastAt 0 pre))∧Boxed W (w.heap.size+1+1) 9 (.string (bs s))∧Below w.heap.size w W)
  (fun _ _ _=>False)
  (OwnFrom.and (Own.from (holdsRow_own (w.heap.size+1+1+1) w.heap.size 142 9 1 (fun (pre:List (Int×Str))=>pre.length) (fun (pre:List (Int×Str))=>pre.map fun x=>Value.string (bs x.2)) (fun _ _=>True)) _)
    (OwnFrom.and (Own.from (fun s X Y row h hg hr=>h.kept hg (fun e'=>by obtain ⟨o,ho,hc⟩:=hr _ e'.symm;rw [show X.heap[_]? =_ from h] at ho;cases ho;cases hc)) _)
      (OwnFrom.and (Own.from (fun s X Y row h hg hr=>h.kept hg (fun e'=>by obtain ⟨o,ho,hc⟩:=hr _ e'.symm;rw [show X.heap[_]? =_ from h] at ho;cases ho;cases hc)) _)
        (ownFrom_below (Nat.le_refl _) (by simp;omega)))))
  (fun _ _ _ _ _ hs _ _=>hs)
  ⟨⟨_,(bO.alloc _).alloc _,World.ownsRow_nil _ _ _ _,trivial⟩,bG.alloc _,bN,hB0⟩
  (fun x=> {tmps:= #[.string (bs s),undef,.slice none 0 0,.int .i64 0,.pointer (some ⟨w.heap.size,0,none⟩),.pointer (some ⟨w.heap.size+1,0,none⟩),.int .i64 x.1,.string (bs x.2),.string (bs s),.func (.func 194) #[] #[.pointer (some ⟨w.heap.size+1+1,0,none⟩)],.int .i64 x.1,.string (bs x.2),undef,undef,undef,undef,undef,undef,undef],defers:=[]}) ?assign ?body ?done ?stop
 case assign=>
  intro l x W K hK
  gi_wp2
  exact hK
 case body=>
  rintro l pre x W ⟨⟨v,hv,hrow,_⟩,hg,hn,hB⟩ hlt
  have hc:=hv.cell
  have hcg:=hg.cell
  have hm1:pre.length+1≤maxLen:=by unfold maxLen;omega
  have hm2:(pre.length+1)*16≤140737488355328:=by omega
  have hlo:=hn.lt
  gi_wp2_with (gi_at_builtin;refine wpListIn_append_own _ rfl _ _ 142 rfl (w.heap.size+1+1+1) 9 i0 (.string ByteArray.empty) 1 16 Tryz.underlying142 hi hz0 hz1 hz2 rfl (by decide) _ _ _ rfl (hrow.alloc _) ⟨W.heap.size,0,none⟩ 1 1 [.string (bs x.2)] rfl rfl (cell_one_new _ _ _) (by simp [Value.oneCell']) hm1 hm2 (by simp;omega) ?_;intro v' w1 hown' hgrow _;obtain ⟨g',cap',rfl⟩:=ownsRow_succ hown';obtain ⟨hv1,hv2,hr2,hk2,hb2⟩:=hv.appended (by decide) (row_base hrow (by omega:w.heap.size≤_)) hB.size (Nat.le_refl _) (row_base hown' (by omega)) hgrow;have hc1:=hv1.cell;have hf1:=hv1.frozen;have hg1:Boxed w1 (w.heap.size+1) 3 (.int .i64 (lastAt 0 pre)):=(hg.alloc _).kept hgrow (hg.not_row (by decide) hrow);have hg2:=hg1.kept (grownBy_setCell' w1 w.heap.size (.slice (some ⟨g',0,none⟩) (pre.length+1) cap')) (by simp);have hcg2:=hg2.cell;have hfg2:=hg2.frozen)
  have hn2:KeepBox (w.heap.size+1+1) 9 W ((w1.setCell ⟨w.heap.size,0,none⟩ (.slice (some ⟨g',0,none⟩) (pre.length+1) cap')).setCell ⟨w.heap.size+1,0,none⟩ (.int .i64 x.1)):=fun u hu=>
   ((((hu.alloc _).kept hgrow (row_far hrow (by omega))).kept (grownBy_setCell' w1 w.heap.size _) (by simp;omega)).kept (grownBy_setCell' _ (w.heap.size+1) _) (by simp))
  have hr3:((w1.setCell ⟨w.heap.size,0,none⟩ (.slice (some ⟨g',0,none⟩) (pre.length+1) cap')).setCell ⟨w.heap.size+1,0,none⟩ (.int .i64 x.1)).ownsRow (w.heap.size+1+1+1) 9 1 (.slice (some ⟨g',0,none⟩) (pre.length+1) cap') (pre.length+1) (pre.map (fun x=>Value.string (bs x.2))++[.string (bs x.2)]):=
   (hown'.kept (grownBy_setCell' w1 w.heap.size _) (.inr (row_far hown' (by omega)).symm)).kept (grownBy_setCell' _ (w.heap.size+1) _) (.inr (row_far hown' (by omega)).symm)
  refine ⟨(hk2.trans (KeepsOthers.setCell _ _ _)).from _,⟨hn2,fun _=>gw_same hG fun b hb _=>((hB.trans hb2).setCell (p:=⟨w.heap.size+1,0,none⟩) (by simp) _).block b hb⟩,⟨_,hv2.kept (grownBy_setCell' _ (w.heap.size+1) _) (by simp),by simpa using hr3,trivial⟩,?_,hn2 _ hn,(hB.trans hb2).setCell (p:=⟨w.heap.size+1,0,none⟩) (by simp) _⟩
  rw [lastAt_snoc]
  exact hg2.set _
 case done=>
  rintro D ys W hD rfl ⟨⟨v,hv,hrow,_⟩,hg,hn,hB⟩ hK
  have hc:=hv.cell
  have hcg:=hg.cell
  gi_wp2
  gi_region
  all_goals gi_wp2
  have hK':W.drew.heap[D]? =some (.deferred (some [])):=hK
  have hrow':W.drew.ownsRow (w.heap.size+1+1+1) 9 1 v ys.length (ys.map fun x=>Value.string (bs x.2)):=hrow
  refine ⟨by simp,.inl ⟨_,_,rfl,run_takeDeferred hK',?_⟩⟩
  refine ⟨_,?_,v,rfl,row_base (ownsRow_putObj hrow' _ hK' rfl) (by omega),hB.drew.trans (belowK_b (w:=w) (Nat.le_refl _) W.drew D _ _ (by simp at hD;omega) hK' rfl rfl)⟩
  exact results_tmp2 (fn:=Tryz.f101) (t:=2) (u:=3) rfl _ _ _
 case stop=>
  rintro D c pre W _ _ h _
  exact h.elim
theorem wal_Scan_walk {s:Str} {r:List Str×Int} (h:wal_Scan s=some r):PureP Tryz.prog 101 [.v (.string (bs s))] (fun a=>a= .tup [.sl (List.map encS r.1),.v (.int .i64 r.2)]):=by
 refine ⟨⟨_,Tryz.func101,by simp [Tryz.f101],by simp [Tryz.f101]⟩,fun w F vs hG hb hv=> ?_⟩
 obtain ⟨n,hn⟩:=loop_iff.1 h
 obtain ⟨xs,h1,h2,h3⟩:=scan_runs s n [] 0 s r hn
 have hvs:vs= #[.string (bs s)]:=list_of_cells [.v (.string (bs s))] vs [.string (bs s)] hv.1 rfl (fun j hj=>by
  have hj0:j=0:=by simpa using hj
  subst hj0
  exact (hv.2 0 _ rfl).v_inv)
 rw [hvs]
 have hbytes:xs.length*16≤140737488355328:=by
  by_cases hx:xs=[]
  ·subst hx;simp
  ·simpa using h3 hx
 refine (callsIn_wide.1 (scanIn s xs h1 hbytes w hG)).mono ?_
 rintro en w' ⟨v,rfl,hrow,hB⟩
 have hr1:r.1=xs.map (·.2):=by rw [h2];simp
 have hr2:r.2=lastAt 0 xs:=by rw [h2]
 have hown: ∀b,v.ownBlock=some b→w.heap.size≤b∧b<w'.heap.size:=by
  intro b hb
  rcases hrow.2 with ⟨rfl,_⟩|⟨g,cap,cur,rfl,hg,hblk,_⟩
  ·cases hb
  ·injection hb with hb
   subst hb
   exact ⟨hg,(Array.getElem?_eq_some_iff.1 hblk).1⟩
 refine ⟨_,_,fun b=>F b∨v.ownBlock=some b,rfl,rfl,?_,fun b h=>.inl h,fun b h=> ?_,fun b h=> ?_,⟨hB.os,hB.tape,hB.output,hB.size,fun k hk _=>hB.block k hk⟩⟩
 ·refine .tup rfl (fun j a hj=> ?_)
  match j,hj with
  |0,hj=>
   injection hj with hj
   subst hj
   have:=rep_of_row (F:=fun b=>F b∨v.ownBlock=some b) (e:=Env.nil) hrow (xs:=(xs.map (·.2)).map fun s=>AV.v (.string (bs s))) (by rw [concs_strs];simp) (by simp [ones,AV.one,Value.oneCell']) (fun b h=>.inr h)
   rw [hr1]
   simpa [encS,Function.comp_def] using this
  |1,hj=>
   injection hj with hj
   subst hj
   rw [hr2]
   exact .v
 ·rcases h with h|h
  ·exact .inl h
  ·exact .inr (hown b h).1
 ·rcases h with h|h
  ·exact Nat.lt_of_lt_of_le (hb b h) hB.size
  ·exact (hown b h).2
end
def disk_change (d:Disk):Option (Disk×Bool):=
 (if (decide (d.Fuse=0)) then some (.inr ()) else
 if (decide (d.Fuse>0)) then some (.inl (IntKind.i64.wrap (d.Fuse - 1))) else
 some (.inl d.Fuse)).bind fun (y1:(Int)⊕(Unit))=>
 match y1 with
 |(.inl v1)=>
  some ((⟨d.Files,d.Room,v1,d.Off⟩:Disk),true)
 |(.inr v2)=>
 some ((⟨d.Files,d.Room,d.Fuse,true⟩:Disk),false)
theorem disk_change_walk {d r} (h:disk_change d=some r):pP 195 [.agg (aG d)] (.tup [.agg (aG r.1),vB r.2]):=by
 unfold disk_change at h
 refine pW0 Tryz.func195 rfl fun g=>gN 2 ?_
 refine kS h (Sum.elim (aO .normal (fun v1=>⟨19,0,ab [(1,.ptr 0 0),(2,.ptr 1 0)],[.var 26 [sL ar d.Files,vI d.Room,vI v1,vB d.Off],.var 26 [vN,vI 0,vI 0,vB false]]⟩)) (aO .ret (fun _=>⟨19,0,ab [(2,.ptr 1 0),(3,vB false)],[.gone,.var 26 [sL ar d.Files,vI d.Room,vI d.Fuse,vB true]]⟩))) (fun y1 h=>go ?_)<|bE (bO fun v1 _ h w=>wk w eF)<|bO fun v2 _ h w=>eFw
 refine cC h rfl (fun c1 h=>go ?_) fun c1 h=>go ?_
 cases h
 exact ⟨rfl,(wF (.g .rest) (.all rfl))⟩
 exact cC h rfl (fun c2 h=>cE) fun c2 h=>cE
def disk_size (f:File):Option (Int):=
 some (IntKind.i64.wrap ((f.Safe.length:Int)+(f.Wait.length:Int)))
theorem disk_size_walk {f r} (h:disk_size f=some r):pP 171 [.agg (ar f)] (vI r):=by
 unfold disk_size at h
 refine pW0 Tryz.func171 rfl fun g=>go ?_
 refine ⟨(f.Safe.length:Int),rfl,(f.Wait.length:Int),rfl,eF⟩
def disk_without (d:Disk) (i:Int):Option (Disk):=
 (ix d.Files i).bind fun x1=>
 (disk_size x1).bind fun y1=>
 aL (d.Files.length*48≤140737488355328)<|
 aL (0≤i∧i≤(IntKind.i64.wrap (i+1))∧(IntKind.i64.wrap (i+1))≤(d.Files.length:Int)∧(d.Files.length:Int)<4611686018427387904∧0<d.Files.length)<|
 some (⟨(List.take i.toNat d.Files++List.drop (IntKind.i64.wrap (i+1)).toNat d.Files),(IntKind.i64.wrap (d.Room+y1)),d.Fuse,d.Off⟩:Disk)
theorem disk_without_walk {d i r} (h:disk_without d i=some r):pP 196 [.agg (aG d),vI i] (.agg (aG r)):=by
 unfold disk_without at h
 refine pW (G:=⟨tys,[215],[(60,135,3)],[215]⟩) ct mixed Tryz.func196 rfl fun g=>go ?_
 refine cp.one 10 (.k [0,1,2,3,4,5,6] (.o 7 (.k [8,9] .fin))) [] (by kernel_rfl) (go ?_)
 refine bD h fun x1 q1 h=>⟨(af q1).1,_,al ar (af q1).2,rfl,go ?_,⟨⟩⟩
 refine cP h disk_size_walk fun y1 h=>go ?_
 obtain ⟨p1,h⟩:=au h
 refine mF (clone_60 d.Files p1) ⟨rfl,go ?_⟩
 obtain ⟨p2,h⟩:=au h
 exact mE (delete_215 d.Files i (IntKind.i64.wrap (i+1)) p2) eF
def disk_Delete (d:Disk) (name:Str):Option (Disk×Int):=
 if d.Off then some (d,6) else
 (disk_at d name).bind fun y1=>
 if (decide (y1<0)) then some (d,7) else
 (disk_change d).bind fun y2=>
 if (!y2.2) then some (y2.1,6) else
 (disk_at y2.1 name).bind fun y3=>
 (disk_without y2.1 y3).bind fun y4=>
 some (y4,0)
theorem disk_Delete_walk {d name r} (h:disk_Delete d name=some r):pP 154 [.agg (aG d),vS name] (.tup [.agg (aG r.1),vI r.2]):=by
 unfold disk_Delete at h
 refine pW0 Tryz.func154 rfl fun g=>go ?_
 refine cC h rfl (fun c1 h=>eF) fun c1 h=>go ?_
 refine cP h disk_at_walk fun y1 h=>go ?_
 refine cC h rfl (fun c2 h=>eF) fun c2 h=>go ?_
 refine cP h disk_change_walk fun y2 h=>go ?_
 refine cC h rfl (fun c3 h=>eF) fun c3 h=>go ?_
 refine cp.one 5 (.k [0,1,2] (.o 3 (.o 4 .fin))) [] (by kernel_rfl) ⟨go ?_,⟨⟩⟩
 refine cP h disk_at_walk fun y3 h=>⟨go ?_,⟨⟩⟩
 exact cP h disk_without_walk fun y4 h=>eF
def disk_named (name:Str):Option (Bool):=
 if (decide ((name.length:Int)≥1)) then some (decide ((name.length:Int)≤16)) else
 some false
theorem disk_named_walk {name r} (h:disk_named name=some r):pP 170 [vS name] (vB r):=by
 unfold disk_named at h
 refine pW0 Tryz.func170 rfl fun g=>go ?_
 refine ⟨(name.length:Int),rfl,go ?_⟩
 exact cM h (fun c1 h=>⟨(name.length:Int),rfl,eF⟩) fun c1 h=>eF
def disk_set_File (l:(List File)) (i:Int) (x:File):Option ((List File)):=
 aL (l.length*48≤140737488355328)<|
 (ix l i).bind fun x1=>
 some (List.set l (i).toNat x)
theorem disk_set_File_walk {l i x r} (h:disk_set_File l i x=some r):pP 169 [sL ar l,vI i,.agg (ar x)] (sL ar r):=by
 unfold disk_set_File at h
 refine pW (G:=⟨tys,[],[(60,135,3)],[]⟩) ct mixed Tryz.func169 rfl fun g=>go ?_
 obtain ⟨p1,h⟩:=au h
 refine mF (clone_60 l p1) (go ?_)
 obtain ⟨x1,q1,h⟩:=bind_some h
 refine ⟨⟨rfl,(bX q1).1,by have:=bX q1;simp only [List.length_map,List.length_set,List.length_cons,List.length_nil] at*;omega⟩,?_⟩
 refine ⟨rfl,_,al ar (af q1).2,Nat.le_of_ble_eq_true rfl,List.map ar (List.set l (i).toNat x),map_set ar _ _ _ rfl,go ?_⟩
 refine dt ⟨by first|(simp;done)|(simp only [List.length_map,List.length_append,List.length_take,List.length_drop,List.length_replicate,List.length_set,List.length_mergeSort];omega),go ?_⟩
 cases h
 rfl
def disk_Append (d:Disk) (name s:Str):Option (Disk×Int):=
 (disk_Find d name).bind fun y1=>
 (if d.Off then some (.inr (.inl 6)) else
 (disk_named name).bind fun y2=>
 if (!y2) then some (.inr (.inl 1)) else
 if ((!y1.2)&&(decide ((d.Files.length:Int)≥64))) then some (.inl ()) else
 if (decide ((s.length:Int)>d.Room)) then some (.inl ()) else
 (disk_size y1.1).bind fun y3=>
 if (decide ((IntKind.i64.wrap (y3+(s.length:Int)))>65536)) then some (.inr (.inr (.inl ()))) else
 some (.inr (.inr (.inr ())))).bind fun (y4:(Unit)⊕(Int)⊕(Unit)⊕(Unit))=>
 match y4 with
 |(.inl v1)=>
  some (d,5)
 |(.inr (.inl v2))=>
  some (d,v2)
 |(.inr (.inr (.inl v3)))=>
  some (d,4)
 |(.inr (.inr (.inr v4)))=>
 (if (!y1.2) then
 aL (d.Files.length*48≤140737488355328)<|
 aL ((d.Files.length+1)*48≤140737488355328)<|
 some (d.Files++[(⟨name,[],[]⟩:File)])
 else
 some d.Files).bind fun (y5:(List File))=>
 (if ((decide (d.Fuse≥0))&&(decide (d.Fuse<(s.length:Int)))) then
 aL ((0:Int)≤(0:Int)∧0≤d.Fuse∧d.Fuse≤(s.length:Int))<|
 some (cut s 0 d.Fuse)
 else
 some s).bind fun (y6:Str)=>
 (disk_at (⟨y5,d.Room,d.Fuse,d.Off⟩:Disk) name).bind fun y7=>
 (ix y5 y7).bind fun x1=>
 aL (x1.Wait.length+y6.length≤9223372036854775807)<|
 (disk_set_File y5 y7 (⟨x1.Name,x1.Safe,(x1.Wait++y6)⟩:File)).bind fun y8=>
 if (decide ((y6.length:Int)<(s.length:Int))) then some ((⟨y8,(IntKind.i64.wrap (d.Room - (y6.length:Int))),(if (decide (d.Fuse≥0)) then (IntKind.i64.wrap (d.Fuse - (y6.length:Int))) else d.Fuse),true⟩:Disk),6) else
 some ((⟨y8,(IntKind.i64.wrap (d.Room - (y6.length:Int))),(if (decide (d.Fuse≥0)) then (IntKind.i64.wrap (d.Fuse - (y6.length:Int))) else d.Fuse),d.Off⟩:Disk),0)
theorem disk_Append_walk {d name s r} (h:disk_Append d name s=some r):pP 125 [.agg (aG d),vS name,vS s] (.tup [.agg (aG r.1),vI r.2]):=by
 unfold disk_Append at h
 refine pW (G:=⟨tys,[],[(60,135,3)],[]⟩) ct mixed Tryz.func125 rfl fun g=>go ?_
 refine cP h cg fun y1 h=>gN 4 ?_
 refine kS h (Sum.elim (aO .normal (fun _=>⟨118,0,ab [(3,.ptr 0 0),(6,.ptr 1 0)],[.var 26 (aG d),.var 26 [vN,vI 0,vI 0,vB false]]⟩)) (Sum.elim (aO .ret (fun v1=>⟨118,0,ab [(6,.ptr 1 0),(7,vI v1)],[.gone,.var 26 (aG d)]⟩)) (Sum.elim (aO (.exit 5) (fun _=>⟨118,0,ab [(3,.ptr 0 0),(6,.ptr 1 0)],[.var 26 (aG d),.var 26 [vN,vI 0,vI 0,vB false]]⟩)) (aO (.exit 0) (fun _=>⟨118,0,ab [(1,vS name),(2,vS s),(3,.ptr 0 0),(6,.ptr 1 0),(8,.ptr 2 0),(9,vB y1.2)],[.var 26 (aG d),.var 26 [vN,vI 0,vI 0,vB false],.var 135 (ar y1.1)]⟩))))) (fun y2 h=>go ?_)<|bE (bO fun v2 _ h w=>wk w eF) (bE (bO fun v1 _ h w=>eFw) (bE (bO fun v3 _ h w=>wk w eF)<|bO fun v4 _ h w=>wk w ((k1 h (fun y3=>⟨118,0,ab [(1,vS name),(2,vS s),(3,.ptr 0 0),(6,.ptr 1 0),(8,.ptr 2 0)],[.var 26 [sL ar y3,vI d.Room,vI d.Fuse,vB d.Off],.var 26 [vN,vI 0,vI 0,vB false],.var 135 (ar y1.1)]⟩) (fun y3 h=>go ?_) fun y3 h=>gN 2 ?_))))
 refine cC h rfl (fun c1 h=>go ?_) fun c1 h=>go ?_
 cases h
 exact ⟨rfl,(wF (.g .rest) (.all rfl))⟩
 refine cP h disk_named_walk fun y4 h=>go ?_
 refine cC h rfl (fun c2 h=>go ?_) fun c2 h=>gN 2 ?_
 cases h
 exact ⟨rfl,(wF (.g .rest) (.all rfl))⟩
 refine k0 ⟨118,0,ab [(1,vS name),(2,vS s),(3,.ptr 0 0),(6,.ptr 1 0),(8,.ptr 2 0),(9,vB y1.2),(25,vB ((!y1.2)&&(decide ((d.Files.length:Int)≥64))))],[.var 26 (aG d),.var 26 [vN,vI 0,vI 0,vB false],.var 135 (ar y1.1)]⟩ (go ?_) ((cC h rfl (fun c3 h=>cE) fun c3 h=>go ?_))
 exact cK (!y1.2) (fun i1=>⟨_,(aA _ _).symm,cI⟩) fun i1=>cI
 refine ⟨(s.length:Int),rfl,go ?_⟩
 refine cC h rfl (fun c4 h=>cE) fun c4 h=>go ?_
 refine cP h disk_size_walk fun y5 h=>⟨(s.length:Int),rfl,go ?_⟩
 exact cC h rfl (fun c5 h=>cE) fun c5 h=>cE
 refine cC h rfl (fun c6 h=>go ?_) fun c6 h=>cE
 obtain ⟨p1,h⟩:=au h
 refine mF (clone_60 d.Files p1) ⟨List.map ar [(⟨name,[],[]⟩:File)],rfl,rfl,rfl,go ?_⟩
 refine nD h fun p2 h=>⟨by simp only [List.length_map];exact p2,List.map ar (d.Files++[(⟨name,[],[]⟩:File)]),dk ar _ _ rfl rfl,go ?_⟩
 cases h
 exact ⟨rfl,bl.trans (aK 3 rfl) (wF (.cons (.var (.cons (.frz rfl (rfl)) (.cons (.same rfl) (.cons (.same rfl) (.cons (.same rfl) (.nil)))))) .rest) (.all rfl))⟩
 refine k1 h (fun y6=>⟨118,0,ab [(1,vS name),(2,vS s),(3,.ptr 0 0),(6,.ptr 1 0),(8,.ptr 2 0),(10,vS y6)],[.var 26 [sL ar y3,vI d.Room,vI d.Fuse,vB d.Off],.var 26 [vN,vI 0,vI 0,vB false],.var 135 (ar y1.1)]⟩) (fun y6 h=>(k0 ⟨118,0,ab [(1,vS name),(2,vS s),(3,.ptr 0 0),(6,.ptr 1 0),(8,.ptr 2 0),(10,vS s),(71,vB ((decide (d.Fuse≥0))&&(decide (d.Fuse<(s.length:Int)))))],[.var 26 [sL ar y3,vI d.Room,vI d.Fuse,vB d.Off],.var 26 [vN,vI 0,vI 0,vB false],.var 135 (ar y1.1)]⟩ (go ?_) ((cC h rfl (fun c7 h=>go ?_) fun c7 h=>cE)))) fun y6 h=>go ?_
 exact cK (decide (d.Fuse≥0)) (fun i1=>⟨(s.length:Int),rfl,cI⟩) fun i1=>cI
 refine nD h fun p3 h=>⟨p3,bs (cut s 0 d.Fuse),bs_cut _ _ _,cE⟩
 refine cP h disk_at_walk fun y7 h=>go ?_
 refine bD h fun x1 q1 h=>⟨(af q1).1,_,al ar (af q1).2,rfl,go ?_⟩
 refine nD h fun p4 h=>⟨p4,_,dD _ _,go ?_⟩
 refine cP h disk_set_File_walk fun y8 h=>go ?_
 refine ⟨(y6.length:Int),rfl,gN 0 ?_⟩
 refine k0 ⟨118,0,ab [(2,vS s),(3,.ptr 0 0),(6,.ptr 1 0),(10,vS y6)],[.var 26 [sL ar y8,vI (IntKind.i64.wrap (d.Room - (y6.length:Int))),vI (if (decide (d.Fuse≥0)) then (IntKind.i64.wrap (d.Fuse - (y6.length:Int))) else d.Fuse),vB d.Off],.var 26 [vN,vI 0,vI 0,vB false]]⟩ (go ?_) (go ?_)
 refine cD (decide (d.Fuse≥0)) rfl (fun i1=>go ?_) fun i1=>go ?_
 refine ⟨(y6.length:Int),rfl,go ?_⟩
 exact ⟨rfl,(wF (.cons (.var (.cons (.same rfl) (.cons (.same rfl) (.cons (.same (show (vI (IntKind.i64.wrap (d.Fuse - (y6.length:Int))):AV)=(vI (if (decide (d.Fuse≥0)) then (IntKind.i64.wrap (d.Fuse - (y6.length:Int))) else d.Fuse):AV) from by first|(simp [i1];done)|(simp only [i1,Bool.or_true,Bool.true_or,Bool.false_or,Bool.or_false,Bool.and_true,Bool.true_and,Bool.and_false,Bool.false_and,Bool.not_true,Bool.not_false,if_true,if_false,Bool.false_eq_true];done)|(exfalso;revert i1;simp+contextual;done))) (.cons (.same rfl) (.nil)))))) .rest) (.all rfl))⟩
 exact ⟨rfl,(wF (.cons (.var (.cons (.same rfl) (.cons (.same rfl) (.cons (.same (show (vI d.Fuse:AV)=(vI (if (decide (d.Fuse≥0)) then (IntKind.i64.wrap (d.Fuse - (y6.length:Int))) else d.Fuse):AV) from by first|(simp [i1];done)|(simp only [i1,Bool.or_true,Bool.true_or,Bool.false_or,Bool.or_false,Bool.and_true,Bool.true_and,Bool.and_false,Bool.false_and,Bool.not_true,Bool.not_false,if_true,if_false,Bool.false_eq_true];done)|(exfalso;revert i1;simp+contextual;done))) (.cons (.same rfl) (.nil)))))) .rest) (.all rfl))⟩
 refine ⟨(y6.length:Int),rfl,(s.length:Int),rfl,go ?_⟩
 exact cC h rfl (fun c8 h=>eF) fun c8 h=>eF
def disk_Sync (d:Disk) (name:Str):Option (Disk×Int):=
 (disk_at d name).bind fun y1=>
 if d.Off then some (d,6) else
 if (decide (y1<0)) then some (d,7) else
 (ix d.Files y1).bind fun x1=>
 aL (x1.Safe.length+x1.Wait.length≤9223372036854775807)<|
 (disk_set_File d.Files y1 (⟨x1.Name,(x1.Safe++x1.Wait),[]⟩:File)).bind fun y2=>
 some ((⟨y2,d.Room,d.Fuse,d.Off⟩:Disk),0)
theorem disk_Sync_walk {d name r} (h:disk_Sync d name=some r):pP 124 [.agg (aG d),vS name] (.tup [.agg (aG r.1),vI r.2]):=by
 unfold disk_Sync at h
 refine pW0 Tryz.func124 rfl fun g=>go ?_
 refine cP h disk_at_walk fun y1 h=>go ?_
 refine cC h rfl (fun c1 h=>eF) fun c1 h=>go ?_
 refine cC h rfl (fun c2 h=>eF) fun c2 h=>go ?_
 refine bD h fun x1 q1 h=>⟨(af q1).1,_,al ar (af q1).2,rfl,go ?_⟩
 refine nD h fun p1 h=>⟨p1,_,dD _ _,go ?_⟩
 exact cP h disk_set_File_walk fun y2 h=>eF
def disk_Rename (d:Disk) (from_ to:Str):Option (Disk×Int):=
 if d.Off then some (d,6) else
 (disk_named to).bind fun y1=>
 if (!y1) then some (d,1) else
 (disk_at d from_).bind fun y2=>
 if (decide (y2<0)) then some (d,7) else
 if (decide (from_=to)) then some (d,0) else
 (disk_change d).bind fun y3=>
 if (!y3.2) then some (y3.1,6) else
 ((disk_at y3.1 to).bind fun y4=>
 if (decide (y4≥0)) then
 (disk_without y3.1 y4).bind fun y5=>
 some (y5.Files,y5.Room,y5.Fuse,y5.Off)
 else
 some (y3.1.Files,y3.1.Room,y3.1.Fuse,y3.1.Off)).bind fun (y6:(List File)×Int×Int×Bool)=>
 (disk_at (⟨y6.1,y6.2.1,y6.2.2.1,y6.2.2.2⟩:Disk) from_).bind fun y7=>
 (ix y6.1 y7).bind fun x1=>
 (disk_set_File y6.1 y7 (⟨to,x1.Safe,x1.Wait⟩:File)).bind fun y8=>
 some ((⟨y8,y6.2.1,y6.2.2.1,y6.2.2.2⟩:Disk),0)
theorem disk_Rename_walk {d from_ to r} (h:disk_Rename d from_ to=some r):pP 155 [.agg (aG d),vS from_,vS to] (.tup [.agg (aG r.1),vI r.2]):=by
 unfold disk_Rename at h
 refine pW0 Tryz.func155 rfl fun g=>go ?_
 refine cC h rfl (fun c1 h=>eF) fun c1 h=>go ?_
 refine cP h disk_named_walk fun y1 h=>go ?_
 refine cC h rfl (fun c2 h=>eF) fun c2 h=>go ?_
 refine cP h disk_at_walk fun y2 h=>go ?_
 refine cC h rfl (fun c3 h=>eF) fun c3 h=>go ?_
 refine ⟨_,bs_eq _ _,go ?_⟩
 refine cC h rfl (fun c4 h=>eF) fun c4 h=>go ?_
 refine cP h disk_change_walk fun y3 h=>go ?_
 refine cC h rfl (fun c5 h=>eF) fun c5 h=>gN 1 ?_
 refine k1 h (fun y4=>⟨65,0,ab [(1,vS from_),(2,vS to),(3,.ptr 0 0),(6,.ptr 1 0)],[.var 26 [sL ar y4.1,vI y4.2.1,vI y4.2.2.1,vB y4.2.2.2],.var 26 [vN,vI 0,vI 0,vB false]]⟩) (fun y4 h=>go ?_) fun y4 h=>go ?_
 refine cP h disk_at_walk fun y5 h=>go ?_
 refine cC h rfl (fun c6 h=>go ?_) fun c6 h=>cE
 exact cP h disk_without_walk fun y6 h=>cE
 refine cP h disk_at_walk fun y7 h=>go ?_
 refine bD h fun x1 q1 h=>⟨(af q1).1,_,al ar (af q1).2,rfl,go ?_⟩
 exact cP h disk_set_File_walk fun y8 h=>eF
def wal_cut_l2 (a1 a2:Int) (a3:(List File)) (a4 a5:Int) (a6:Bool):Option ((Int×Int×(List File)×Int×Int×Bool)⊕(Int×(List File)×Int×Int×Bool)):=
 (if (decide (a1=0)) then
 (wal_may a2).bind fun y1=>
 some y1
 else
 some false).bind fun (y2:Bool)=>
 if y2 then
 (wal_Name a2).bind fun y3=>
 (disk_Find (⟨a3,a4,a5,a6⟩:Disk) y3).bind fun y4=>
 if (!y4.2) then some (.inr (a1,a3,a4,a5,a6)) else
 (disk_Delete (⟨a3,a4,a5,a6⟩:Disk) y3).bind fun y5=>
 some (.inl (y5.2,(IntKind.i64.wrap (a2+1)),y5.1.Files,y5.1.Room,y5.1.Fuse,y5.1.Off))
 else
 some (.inr (a1,a3,a4,a5,a6))
def wal_cut (d:Disk) (seg:Int) (s:Str):Option (Disk×Int):=
 ((disk_Find d [119,46,110,101,119]).bind fun y1=>
 if y1.2 then
 (disk_Delete d [119,46,110,101,119]).bind fun y2=>
 if (!(decide (y2.2=0))) then some (.inr (y2.2,y2.1.Files,y2.1.Room,y2.1.Fuse,y2.1.Off)) else
 some (.inl (y2.1.Files,y2.1.Room,y2.1.Fuse,y2.1.Off))
 else
 some (.inl (d.Files,d.Room,d.Fuse,d.Off))).bind fun (y3:((List File)×Int×Int×Bool)⊕(Int×(List File)×Int×Int×Bool))=>
 match y3 with
 |(.inl v1)=>
  (disk_Append (⟨v1.1,v1.2.1,v1.2.2.1,v1.2.2.2⟩:Disk) [119,46,110,101,119] s).bind fun y4=>
  if (!(decide (y4.2=0))) then some (y4.1,y4.2) else
  (disk_Sync y4.1 [119,46,110,101,119]).bind fun y5=>
  if (!(decide (y5.2=0))) then some (y5.1,y5.2) else
  (wal_Name seg).bind fun y6=>
  (disk_Rename y5.1 [119,46,110,101,119] y6).bind fun y7=>
  (loop (fun (s1:Int×Int×(List File)×Int×Int×Bool)=>wal_cut_l2 s1.1 s1.2.1 s1.2.2.1 s1.2.2.2.1 s1.2.2.2.2.1 s1.2.2.2.2.2) (y7.2,(IntKind.i64.wrap (seg+1)),y7.1.Files,y7.1.Room,y7.1.Fuse,y7.1.Off)).bind fun (y8:Int×(List File)×Int×Int×Bool)=>
  some ((⟨y8.2.1,y8.2.2.1,y8.2.2.2.1,y8.2.2.2.2⟩:Disk),y8.1)
 |(.inr v2)=>
 some ((⟨v2.2.1,v2.2.2.1,v2.2.2.2.1,v2.2.2.2.2⟩:Disk),v2.1)
theorem wal_cut_walk {d seg s r} (h:wal_cut d seg s=some r):pP 102 [.agg (aG d),vI seg,vS s] (.tup [.agg (aG r.1),vI r.2]):=by
 unfold wal_cut at h
 refine pW0 Tryz.func102 rfl fun g=>gN 2 ?_
 refine kS h (Sum.elim (aO .normal (fun v1=>⟨86,0,ab [(1,vI seg),(2,vS s),(3,.ptr 0 0),(6,.ptr 1 0)],[.var 26 [sL ar v1.1,vI v1.2.1,vI v1.2.2.1,vB v1.2.2.2],.var 26 [vN,vI 0,vI 0,vB false]]⟩)) (aO .ret (fun v2=>⟨86,0,ab [(6,.ptr 1 0),(7,vI v2.1)],[.gone,.var 26 [sL ar v2.2.1,vI v2.2.2.1,vI v2.2.2.2.1,vB v2.2.2.2.2]]⟩))) (fun y1 h=>go ?_)<|bE (bO fun v1 _ h w=>wk w (go ?_))<|bO fun v2 _ h w=>eFw
 refine cP h cg fun y2 h=>go ?_
 refine cC h rfl (fun c1 h=>go ?_) fun c1 h=>cE
 refine cP h disk_Delete_walk fun y3 h=>go ?_
 refine cC h rfl (fun c2 h=>go ?_) fun c2 h=>cE
 cases h
 exact ⟨rfl,(wF (.g .rest) (.all rfl))⟩
 refine cP h disk_Append_walk fun y4 h=>go ?_
 refine cC h rfl (fun c3 h=>eF) fun c3 h=>go ?_
 refine cP h disk_Sync_walk fun y5 h=>go ?_
 refine cC h rfl (fun c4 h=>eF) fun c4 h=>go ?_
 obtain ⟨y6,q1,h⟩:=bind_some h
 obtain ⟨y7,q2,h⟩:=bind_some h
 refine cp.many 8 (.k [1] (.alt 0 (.o 2 (.o 3 (.k [4,5,6] (.o 7 .fin)))) (.o 2 (.o 0 (.o 3 (.k [4,5,6] (.o 7 .fin))))))) [0,2,3,4,5,6,7] (⟨86,0,ab [(1,vI seg),(3,.ptr 0 0),(6,.ptr 1 0),(57,vI y7.2)],[.var 26 (aG y7.1),.var 26 [vN,vI 0,vI 0,vB false]]⟩) (by kernel_rfl) ⟨⟨go ?_,⟨⟩⟩,⟨go ?_,⟨⟩⟩⟩ (go ?_)
 refine mP (bp q1) ⟨go ?_,⟨⟩⟩
 exact mP (disk_Rename_walk q2) ⟨cA,⟨⟩⟩
 refine mP (bp q1) ⟨⟨go ?_,⟨⟩⟩,⟨⟩⟩
 exact mP (disk_Rename_walk q2) ⟨cA,⟨⟩⟩
 refine lQ h (fun s1=>⟨86,0,ab [(3,.ptr 0 0),(6,.ptr 1 0),(12,vI s1.1),(13,vI s1.2.1)],[.var 26 [sL ar s1.2.2.1,vI s1.2.2.2.1,vI s1.2.2.2.2.1,vB s1.2.2.2.2.2],.var 26 [vN,vI 0,vI 0,vB false]]⟩) (aO (.exit 0) (fun y8=>⟨86,0,ab [(3,.ptr 0 0),(6,.ptr 1 0),(12,vI y8.1)],[.var 26 [sL ar y8.2.1,vI y8.2.2.1,vI y8.2.2.2.1,vB y8.2.2.2.2],.var 26 [vN,vI 0,vI 0,vB false]]⟩)) wA ?_ <|bO fun y8 _ h w=>wk w eF
 rintro y8 ⟨a1,a2,a3,a4,a5,a6⟩ v3 h r
 replace h:wal_cut_l2 a1 a2 a3 a4 a5 a6=some v3:=h
 unfold wal_cut_l2 at h
 dsimp only
 refine gN 1 ?_
 refine k1 h (fun y9=>⟨86,0,ab [(3,.ptr 0 0),(6,.ptr 1 0),(12,vI a1),(13,vI a2),(65,vB y9)],[.var 26 [sL ar a3,vI a4,vI a5,vB a6],.var 26 [vN,vI 0,vI 0,vB false]]⟩) (fun y9 h=>go ?_) fun y9 h=>(cC h rfl (fun c5 h=>go ?_) fun c5 h=>xE)
 refine cM h (fun c6 h=>go ?_) fun c6 h=>cE
 exact cP h wal_may_walk fun y10 h=>cE
 obtain ⟨y11,q3,h⟩:=bind_some h
 obtain ⟨y12,q4,h⟩:=bind_some h
 refine cp.many 9 (.k [0,1] (.alt 2 (.alt 3 (.k [4,5,6] (.o 7 (.o 8 .fin))) (.o 7 (.o 3 (.k [4,5,6] (.o 8 .fin))))) (.o 7 (.o 2 (.o 3 (.k [4,5,6] (.o 8 .fin))))))) [2,3,4,5,6,7] (⟨86,0,ab [(3,.ptr 0 0),(6,.ptr 1 0),(12,vI a1),(13,vI a2),(74,vB y12.2)],[.var 26 [sL ar a3,vI a4,vI a5,vB a6],.var 26 [vN,vI 0,vI 0,vB false]]⟩) (by kernel_rfl) ⟨go ?_,⟨⟨go ?_,⟨⟩⟩,⟨⟩⟩⟩ (go ?_)
 refine mP (bp q3) ⟨go ?_,⟨⟨go ?_,⟨⟩⟩,⟨⟩⟩⟩
 exact mP (cg q4) ⟨⟨cA,⟨⟩⟩,⟨⟩⟩
 exact mP (cg q4) ⟨cA,⟨⟩⟩
 refine mP (bp q3) ⟨go ?_,⟨⟩⟩
 exact mP (cg q4) ⟨cA,⟨⟩⟩
 refine cC h rfl (fun c7 h=>xE) fun c7 h=>go ?_
 obtain ⟨y13,q5,h⟩:=bind_some h
 refine cp.many 8 (.k [1] (.alt 0 (.o 2 (.o 3 (.k [4,5,6] (.o 7 .fin)))) (.o 2 (.o 0 (.o 3 (.k [4,5,6] (.o 7 .fin))))))) [0,2,3,4,5,6,7] (⟨86,0,ab [(3,.ptr 0 0),(6,.ptr 1 0),(13,vI a2),(83,vI y13.2)],[.var 26 (aG y13.1),.var 26 [vN,vI 0,vI 0,vB false]]⟩) (by kernel_rfl) ⟨⟨go ?_,⟨⟩⟩,⟨go ?_,⟨⟩⟩⟩ cN
 refine mP (bp q3) ⟨go ?_,⟨⟩⟩
 exact mP (disk_Delete_walk q5) ⟨cA,⟨⟩⟩
 refine mP (bp q3) ⟨⟨go ?_,⟨⟩⟩,⟨⟩⟩
 exact mP (disk_Delete_walk q5) ⟨cA,⟨⟩⟩
def wal_Recover_l2 (d:Disk) (a1 a2:Int) (a3:(List Str)):Option ((Int×Int×(List Str))⊕((Int×(List File)×Int×Int×Bool×(List Str))⊕(Int×(List File)×Int×Int×Bool))):=
 (wal_may a2).bind fun y1=>
 if y1 then
 (wal_Name a2).bind fun y2=>
 (disk_Read d y2).bind fun y3=>
 if (!(decide (y3.2=0))) then some (.inr (.inl (a1,d.Files,d.Room,d.Fuse,d.Off,a3))) else
 (wal_Scan y3.1).bind fun y4=>
 aL ((a3.length+y4.1.length)*16≤140737488355328)<|
 if (decide (y4.2<(y3.1.length:Int))) then
 aL ((0:Int)≤(0:Int)∧0≤y4.2∧y4.2≤(y3.1.length:Int))<|
 (wal_cut d a2 (cut y3.1 0 y4.2)).bind fun y5=>
 if (!(decide (y5.2=0))) then some (.inr (.inr (y5.2,y5.1.Files,y5.1.Room,y5.1.Fuse,y5.1.Off))) else
 some (.inr (.inl (a2,y5.1.Files,y5.1.Room,y5.1.Fuse,y5.1.Off,(a3++y4.1))))
 else
 some (.inl (a2,(IntKind.i64.wrap (a2+1)),(a3++y4.1)))
 else
 some (.inr (.inl (a1,d.Files,d.Room,d.Fuse,d.Off,a3)))
def wal_Recover (d:Disk) (from_:Int):Option (Disk×(List Str)×Int×Int):=
 (wal_may from_).bind fun y1=>
 if (!y1) then some (d,[],from_,1) else
 (loop (fun (s1:Int×Int×(List Str))=>wal_Recover_l2 d s1.1 s1.2.1 s1.2.2) (from_,from_,([]:(List Str)))).bind fun (y2:(Int×(List File)×Int×Int×Bool×(List Str))⊕(Int×(List File)×Int×Int×Bool))=>
 match y2 with
 |(.inl v1)=>
  some ((⟨v1.2.1,v1.2.2.1,v1.2.2.2.1,v1.2.2.2.2.1⟩:Disk),v1.2.2.2.2.2,v1.1,0)
 |(.inr v2)=>
 some ((⟨v2.2.1,v2.2.2.1,v2.2.2.2.1,v2.2.2.2.2⟩:Disk),[],from_,v2.1)
theorem wal_Recover_walk {d from_ r} (h:wal_Recover d from_=some r):pP 64 [.agg (aG d),vI from_] (.tup [.agg (aG r.1),sL encS r.2.1,vI r.2.2.1,vI r.2.2.2]):=by
 unfold wal_Recover at h
 refine pW0 Tryz.func64 rfl fun g=>go ?_
 refine cP h wal_may_walk fun y1 h=>go ?_
 refine cC h rfl (fun c1 h=>eF) fun c1 h=>go ?_
 refine lQ h (fun s1=>⟨68,0,ab [(1,vI from_),(2,.ptr 0 0),(4,.ptr 1 0),(8,.row 2 ((List.map encS s1.2.2).length)),(9,vI s1.1),(10,vI s1.2.1)],[.var 26 (aG d),.var 26 [vN,vI 0,vI 0,vB false],.row 9 1 (List.map encS s1.2.2)]⟩) (Sum.elim (aO (.exit 0) (fun v1=>⟨68,0,ab [(2,.ptr 0 0),(4,.ptr 1 0),(8,.row 2 ((List.map encS v1.2.2.2.2.2).length)),(9,vI v1.1)],[.var 26 [sL ar v1.2.1,vI v1.2.2.1,vI v1.2.2.2.1,vB v1.2.2.2.2.1],.var 26 [vN,vI 0,vI 0,vB false],.row 9 1 (List.map encS v1.2.2.2.2.2)]⟩)) (aO .ret (fun v2=>⟨68,0,ab [(4,.ptr 1 0),(5,vN),(6,vI from_),(7,vI v2.1)],[.gone,.var 26 [sL ar v2.2.1,vI v2.2.2.1,vI v2.2.2.2.1,vB v2.2.2.2.2]]⟩))) (bl.trans (weak_nil 8 9 1 rfl) wI) ?_ <|bE (bO fun v1 _ h w=>wk w eF)<|bO fun v2 _ h w=>eFw
 rintro y2 ⟨a1,a2,a3⟩ v3 h r
 replace h:wal_Recover_l2 d a1 a2 a3=some v3:=h
 unfold wal_Recover_l2 at h
 dsimp only
 refine go ?_
 refine cP h wal_may_walk fun y3 h=>go ?_
 refine cC h rfl (fun c2 h=>go ?_) fun c2 h=>xE
 refine cp.one 9 (.k [0,1] (.o 2 (.o 3 (.k [4,5,6,7,8] .fin)))) [] (by kernel_rfl) ⟨go ?_,⟨⟩⟩
 refine cP h bp fun y5 h=>⟨go ?_,⟨⟩⟩
 refine cP h disk_Read_walk fun y6 h=>go ?_
 refine cC h rfl (fun c3 h=>xE) fun c3 h=>go ?_
 refine cP h wal_Scan_walk fun y7 h=>go ?_
 refine ⟨rfl,map_len (f:=encS) (n:=1) (fun _=>rfl) _,go ?_⟩
 refine nD h fun p1 h=>⟨by simp only [List.length_map];exact p1,List.map encS (a3++y7.1),dk encS _ _ rfl rfl,go ?_⟩
 refine ⟨(y6.1.length:Int),rfl,go ?_⟩
 refine cC h rfl (fun c4 h=>gN 1 ?_) fun c4 h=>cN
 refine dz.weak (show bl _ ⟨68,0,ab [(1,vI from_),(2,.ptr 0 0),(4,.ptr 1 0),(8,.row 2 ((List.map encS (a3++y7.1)).length)),(9,vI a2),(10,vI a2),(11,vS y6.1),(12,vI y6.2),(13,sL encS y7.1),(14,vI y7.2),(24,vI a2),(25,vB true),(28,.tup [vS y6.1,vI y6.2]),(29,.agg [sL ar d.Files,vI d.Room,vI d.Fuse,vB d.Off]),(30,vI a2),(31,vS y5),(32,.tup [vS y6.1,vI y6.2]),(33,vS y6.1),(34,vI y6.2),(35,vI y6.2),(36,vB false),(37,.tup [sL encS y7.1,vI y7.2]),(38,vS y6.1),(39,.tup [sL encS y7.1,vI y7.2]),(40,sL encS y7.1),(41,vI y7.2),(43,sL encS y7.1),(44,.row 2 ((List.map encS (a3++y7.1)).length)),(45,vI a2),(46,vI y7.2),(47,vS y6.1),(48,vI (y6.1.length:Int)),(49,vB true)],[.var 26 (aG d),.var 26 [vN,vI 0,vI 0,vB false],.row 9 1 (List.map encS (a3++y7.1))]⟩ from wA) (go ?_)
 obtain ⟨p2,h⟩:=au h
 obtain ⟨y8,q1,h⟩:=bind_some h
 refine cp.many 11 (.k [0,1,2,3,4] (.alt 5 (.k [6,7,8] (.o 9 (.o 10 .fin))) (.o 9 (.o 5 (.k [6,7,8] (.o 10 .fin)))))) [3,4,5,6,7,8] (⟨68,0,ab [(1,vI from_),(2,.ptr 0 0),(4,.ptr 1 0),(8,.row 2 ((List.map encS (a3++y7.1)).length)),(9,vI a2),(15,.ptr 3 0),(58,vI y8.2)],[.var 26 (aG d),.var 26 [vN,vI 0,vI 0,vB false],.row 9 1 (List.map encS (a3++y7.1)),.var 26 (aG y8.1)]⟩) (by kernel_rfl) ⟨p2,bs (cut y6.1 0 y7.2),bs_cut _ _ _,go ?_,⟨⟨go ?_,⟨⟩⟩,⟨⟩⟩⟩ (go ?_)
 exact mP (wal_cut_walk q1) ⟨⟨cA,⟨⟩⟩,⟨⟩⟩
 exact mP (wal_cut_walk q1) ⟨cA,⟨⟩⟩
 refine cC h rfl (fun c5 h=>go ?_) fun c5 h=>xE
 cases h
 obtain rfl:=r _ rfl
 exact ⟨rfl,(wF (.g .rest) (.all rfl))⟩
def batch_num (x:Str) (x1:Bool) (most:Int):Option (Int×(Str×Bool)):=
 (dec_TakeNum x).bind fun y1=>
 if (!(x1&&((decide (y1.2.2=0))&&(decide (y1.1≤most))))) then some (0,(y1.2.1,(x1&&((decide (y1.2.2=0))&&(decide (y1.1≤most)))))) else
 some (y1.1,(y1.2.1,(x1&&((decide (y1.2.2=0))&&(decide (y1.1≤most))))))
theorem batch_num_walk {x x1 most r} (h:batch_num x x1 most=some r):pH 103 [.var 194 [vS x,vB x1,.fn (.func 103) [] [],.fn (.func 104) [] []]] [.ptr 0 0,vU most] (vU r.1) [.var 194 [vS r.2.1,vB r.2.2,.fn (.func 103) [] [],.fn (.func 104) [] []]]:=by
 unfold batch_num at h
 refine pC0 Tryz.func103 rfl fun g=>go ?_
 refine cP h dec_TakeNum_walk fun y1 h=>gN 0 ?_
 refine k0 ⟨43,1,ab [(0,.ptr 0 0),(5,vU y1.1)],[.var 194 [vS y1.2.1,vB (x1&&((decide (y1.2.2=0))&&(decide (y1.1≤most)))),.fn (.func 103) [] [],.fn (.func 104) [] []]]⟩ (go ?_) (go ?_)
 refine cK (x1) (fun i1=>go ?_) fun i1=>go ?_
 refine cK (decide (y1.2.2=0)) (fun i2=>go ?_) fun i2=>go ?_
 exact ⟨rfl,(wF (.cons (.var (.cons (.same rfl) (.cons (.same (show (vB (decide (y1.1≤most)):AV)=(vB (x1&&((decide (y1.2.2=0))&&(decide (y1.1≤most)))):AV) from by first|(simp [i1,i2];done)|(simp only [i1,i2,Bool.or_true,Bool.true_or,Bool.false_or,Bool.or_false,Bool.and_true,Bool.true_and,Bool.and_false,Bool.false_and,Bool.not_true,Bool.not_false,if_true,if_false,Bool.false_eq_true];done)|(exfalso;revert i1 i2;simp+contextual;done))) (.cons (.same rfl) (.cons (.same rfl) (.nil)))))) .rest) (.all rfl))⟩
 exact ⟨rfl,(wF (.cons (.var (.cons (.same rfl) (.cons (.same (show (vB false:AV)=(vB (x1&&((decide (y1.2.2=0))&&(decide (y1.1≤most)))):AV) from by first|(simp [i1,i2];done)|(simp only [i1,i2,Bool.or_true,Bool.true_or,Bool.false_or,Bool.or_false,Bool.and_true,Bool.true_and,Bool.and_false,Bool.false_and,Bool.not_true,Bool.not_false,if_true,if_false,Bool.false_eq_true];done)|(exfalso;revert i1 i2;simp+contextual;done))) (.cons (.same rfl) (.cons (.same rfl) (.nil)))))) .rest) (.all rfl))⟩
 exact ⟨rfl,(wF (.cons (.var (.cons (.same rfl) (.cons (.same (show (vB false:AV)=(vB (x1&&((decide (y1.2.2=0))&&(decide (y1.1≤most)))):AV) from by first|(simp [i1];done)|(simp only [i1,Bool.or_true,Bool.true_or,Bool.false_or,Bool.or_false,Bool.and_true,Bool.true_and,Bool.and_false,Bool.false_and,Bool.not_true,Bool.not_false,if_true,if_false,Bool.false_eq_true];done)|(exfalso;revert i1;simp+contextual;done))) (.cons (.same rfl) (.cons (.same rfl) (.nil)))))) .rest) (.all rfl))⟩
 refine cC h rfl (fun c1 h=>go ?_) fun c1 h=>go ?_
 exact eP ⟨43,1,ab [(4,vU 0)],[.var 194 [vS y1.2.1,vB (x1&&((decide (y1.2.2=0))&&(decide (y1.1≤most)))),.fn (.func 103) [] [],.fn (.func 104) [] []]]⟩ wA
 exact eP ⟨43,1,ab [(4,vU y1.1)],[.var 194 [vS y1.2.1,vB (x1&&((decide (y1.2.2=0))&&(decide (y1.1≤most)))),.fn (.func 103) [] [],.fn (.func 104) [] []]]⟩ wA
def batch_text (x:Str) (x1:Bool) (most:Int):Option (Str×(Str×Bool)):=
 (dec_TakeText x most).bind fun y1=>
 some (y1.1,(y1.2.1,(x1&&(decide (y1.2.2=0)))))
theorem batch_text_walk {x x1 most r} (h:batch_text x x1 most=some r):pH 104 [.var 194 [vS x,vB x1,.fn (.func 103) [] [],.fn (.func 104) [] []]] [.ptr 0 0,vI most] (vS r.1) [.var 194 [vS r.2.1,vB r.2.2,.fn (.func 103) [] [],.fn (.func 104) [] []]]:=by
 unfold batch_text at h
 refine pC0 Tryz.func104 rfl fun g=>go ?_
 refine cP h dec_TakeText_walk fun y1 h=>gN 0 ?_
 refine k0 ⟨34,1,ab [(5,vS y1.1)],[.var 194 [vS y1.2.1,vB (x1&&(decide (y1.2.2=0))),.fn (.func 103) [] [],.fn (.func 104) [] []]]⟩ (go ?_) (go ?_)
 refine cK (x1) (fun i1=>go ?_) fun i1=>go ?_
 exact ⟨rfl,(wF (.cons (.var (.cons (.same rfl) (.cons (.same (show (vB (decide (y1.2.2=0)):AV)=(vB (x1&&(decide (y1.2.2=0))):AV) from by first|(simp [i1];done)|(simp only [i1,Bool.or_true,Bool.true_or,Bool.false_or,Bool.or_false,Bool.and_true,Bool.true_and,Bool.and_false,Bool.false_and,Bool.not_true,Bool.not_false,if_true,if_false,Bool.false_eq_true];done)|(exfalso;revert i1;simp+contextual;done))) (.cons (.same rfl) (.cons (.same rfl) (.nil)))))) .rest) (.all rfl))⟩
 exact ⟨rfl,(wF (.cons (.var (.cons (.same rfl) (.cons (.same (show (vB false:AV)=(vB (x1&&(decide (y1.2.2=0))):AV) from by first|(simp [i1];done)|(simp only [i1,Bool.or_true,Bool.true_or,Bool.false_or,Bool.or_false,Bool.and_true,Bool.true_and,Bool.and_false,Bool.false_and,Bool.not_true,Bool.not_false,if_true,if_false,Bool.false_eq_true];done)|(exfalso;revert i1;simp+contextual;done))) (.cons (.same rfl) (.cons (.same rfl) (.nil)))))) .rest) (.all rfl))⟩
 exact eP ⟨34,1,ab [(4,vS y1.1)],[.var 194 [vS y1.2.1,vB (x1&&(decide (y1.2.2=0))),.fn (.func 103) [] [],.fn (.func 104) [] []]]⟩ wA
def batch_May_1 (w_:Write):Option (Bool):=
 if (decide ((w_.Key.length:Int)<1)) then some true else
 if (decide ((w_.Key.length:Int)>32)) then some true else
 if (decide ((w_.Val.length:Int)>64)) then some true else
 if w_.Del then some (!decide (w_.Val=[])) else
 some false
theorem batch_May_1_walk {w_ r} (h:batch_May_1 w_=some r):pP 156 [.agg (am w_)] (vB r):=by
 unfold batch_May_1 at h
 refine pW0 Tryz.func156 rfl fun g=>go ?_
 refine ⟨(w_.Key.length:Int),rfl,go ?_⟩
 refine cM h (fun c1 h=>eF) fun c1 h=>⟨(w_.Key.length:Int),rfl,go ?_⟩
 refine cM h (fun c2 h=>eF) fun c2 h=>⟨(w_.Val.length:Int),rfl,go ?_⟩
 refine cM h (fun c3 h=>eF) fun c3 h=>go ?_
 exact cM h (fun c4 h=>⟨_,bs_ne _ _,eF⟩) fun c4 h=>eF
def aW (s:(List Write)) (a1:Int):Option ((Int)⊕((Int)⊕(Unit))):=
 if (decide (a1<(s.length:Int))) then
 (ix s a1).bind fun x1=>
 (batch_May_1 x1).bind fun y1=>
 if y1 then some (.inr (.inl a1)) else
 some (.inl (IntKind.i64.wrap (a1+1)))
 else
 some (.inr (.inr ()))
def cv (s:(List Write)):Option (Int):=
 (loop (fun (s1:Int)=>aW s s1) (0:Int)).bind fun (y1:(Int)⊕(Unit))=>
 match y1 with
 |(.inl v1)=>
  some v1
 |(.inr v2)=>
 some (-1)
theorem slices_IndexFunc_Write__batch_May_1_walk {s r} (h:cv s=some r):pH 197 [] [sL am s,.fn (.func 156) [] []] (vI r) []:=by
 unfold cv at h
 refine pC0 Tryz.func197 rfl fun g=>go ?_
 refine ⟨_,(aA _ _).symm,go ?_⟩
 refine lQ h (fun s1=>⟨19,0,ab [(0,sL am s),(1,.fn (.func 156) [] []),(7,vI (s.length:Int)),(8,vI s1)],[]⟩) (Sum.elim (aO .ret (fun v1=>⟨19,0,ab [(4,vI v1)],[]⟩)) (aO (.exit 0) (fun _=>⟨19,0,ab [],[]⟩))) wA ?_ <|bE (bO fun v1 _ h w=>go ?_)<|bO fun v2 _ h w=>wk w (go ?_)
 rintro y1 a1 v3 h r
 replace h:aW s a1=some v3:=h
 unfold aW at h
 refine go ?_
 refine cC h rfl (fun c1 h=>go ?_) fun c1 h=>xE
 refine bD h fun x1 q1 h=>⟨(af q1).1,_,al am (af q1).2,rfl,go ?_⟩
 refine cP h batch_May_1_walk fun y2 h=>go ?_
 exact cC h rfl (fun c2 h=>xE) fun c2 h=>cN
 exact eP ⟨19,0,ab [(4,vI v1)],[]⟩ (bl.trans w wA)
 exact eP ⟨19,0,ab [(4,vI (-1))],[]⟩ wA
def bw (s:(List Write)):Option (Bool):=
 (cv s).bind fun y1=>
 some (decide (y1≥0))
theorem slices_ContainsFunc_Write__batch_May_1_walk {s r} (h:bw s=some r):pH 157 [] [sL am s,.fn (.func 156) [] []] (vB r) []:=by
 unfold bw at h
 refine pC (G:=⟨tys,[197],[],[]⟩) ct mixed Tryz.func157 rfl fun g=>go ?_
 refine cU h slices_IndexFunc_Write__batch_May_1_walk [] fun y1 h=>go ?_
 exact eP ⟨9,0,ab [(4,vB (decide (y1≥0)))],[]⟩ wA
def batch_May_l2 (b:Batch) (a1:Int):Option ((Int)⊕((Unit)⊕(Unit))):=
 if (decide (a1<(b.Writes.length:Int))) then
 (ix b.Writes (IntKind.i64.wrap (a1 - 1))).bind fun x1=>
 (ix b.Writes a1).bind fun x2=>
 if (!ltS x1.Key x2.Key) then some (.inr (.inl ())) else
 some (.inl (IntKind.i64.wrap (a1+1)))
 else
 some (.inr (.inr ()))
def batch_May (b:Batch):Option (Bool):=
 if (if (!(decide (b.Kind=1))) then ((!(decide (b.Kind=2)))||((decide ((b.Token.length:Int)<1))||((decide ((b.Token.length:Int)>16))||((decide ((b.Writes.length:Int)>24))||((decide (b.Kind=2))&&(decide ((b.Writes.length:Int)>0))))))) else ((decide ((b.Token.length:Int)<1))||((decide ((b.Token.length:Int)>16))||((decide ((b.Writes.length:Int)>24))||((decide (b.Kind=2))&&(decide ((b.Writes.length:Int)>0))))))) then some false else
 (loop (fun (s1:Int)=>batch_May_l2 b s1) (1:Int)).bind fun (y1:(Unit)⊕(Unit))=>
 match y1 with
 |(.inl v1)=>
  some false
 |(.inr v2)=>
 (bw b.Writes).bind fun y2=>
 some (!y2)
theorem batch_May_walk {b r} (h:batch_May b=some r):pP 105 [.agg (encBatch b)] (vB r):=by
 unfold batch_May at h
 refine pW (G:=⟨tys,[157],[],[]⟩) ct mixed Tryz.func105 rfl fun g=>gN 3 ?_
 refine k0 ⟨68,0,ab [(1,.ptr 0 0),(41,vB (if (!(decide (b.Kind=1))) then ((!(decide (b.Kind=2)))||((decide ((b.Token.length:Int)<1))||((decide ((b.Token.length:Int)>16))||((decide ((b.Writes.length:Int)>24))||((decide (b.Kind=2))&&(decide ((b.Writes.length:Int)>0))))))) else ((decide ((b.Token.length:Int)<1))||((decide ((b.Token.length:Int)>16))||((decide ((b.Writes.length:Int)>24))||((decide (b.Kind=2))&&(decide ((b.Writes.length:Int)>0))))))))],[.var 100 (encBatch b)]⟩ (go ?_) ((cC h rfl (fun c1 h=>eF) fun c1 h=>go ?_))
 refine cK (!(decide (b.Kind=1))) (fun i1=>go ?_) fun i1=>⟨(b.Token.length:Int),rfl,go ?_⟩
 refine cK (!(decide (b.Kind=2))) (fun i2=>cI) fun i2=>⟨(b.Token.length:Int),rfl,go ?_⟩
 refine cK (decide ((b.Token.length:Int)<1)) (fun i3=>cI) fun i3=>⟨(b.Token.length:Int),rfl,go ?_⟩
 refine cK (decide ((b.Token.length:Int)>16)) (fun i4=>cI) fun i4=>⟨_,(aA _ _).symm,go ?_⟩
 refine cK (decide ((b.Writes.length:Int)>24)) (fun i5=>cI) fun i5=>go ?_
 exact cK (decide (b.Kind=2)) (fun i6=>⟨_,(aA _ _).symm,cI⟩) fun i6=>cI
 refine cK (decide ((b.Token.length:Int)<1)) (fun i2=>cI) fun i2=>⟨(b.Token.length:Int),rfl,go ?_⟩
 refine cK (decide ((b.Token.length:Int)>16)) (fun i3=>cI) fun i3=>⟨_,(aA _ _).symm,go ?_⟩
 refine cK (decide ((b.Writes.length:Int)>24)) (fun i4=>cI) fun i4=>go ?_
 exact cK (decide (b.Kind=2)) (fun i5=>⟨_,(aA _ _).symm,cI⟩) fun i5=>cI
 refine lQ h (fun s1=>⟨68,0,ab [(1,.ptr 0 0),(3,.fn (.func 156) [] []),(4,vI s1)],[.var 100 (encBatch b)]⟩) (Sum.elim (aO .ret (fun _=>⟨68,0,ab [(2,vB false)],[]⟩)) (aO (.exit 0) (fun _=>⟨68,0,ab [(1,.ptr 0 0),(3,.fn (.func 156) [] [])],[.var 100 (encBatch b)]⟩))) wA ?_ <|bE (bO fun v1 _ h w=>eFw)<|bO fun v2 _ h w=>wk w (go ?_)
 rintro y1 a1 v3 h r
 replace h:batch_May_l2 b a1=some v3:=h
 unfold batch_May_l2 at h
 refine go ?_
 refine ⟨_,(aA _ _).symm,go ?_⟩
 refine cC h rfl (fun c2 h=>go ?_) fun c2 h=>xE
 refine cp.one 14 (.k [0,1,2,3,4,5,6,7,8,9,10,11,12,13] .fin) [] (by kernel_rfl) (go ?_)
 refine bD h fun x1 q1 h=>⟨(af q1).1,_,al am (af q1).2,rfl,go ?_⟩
 refine bD h fun x2 q2 h=>⟨(af q2).1,_,al am (af q2).2,rfl,(!ltS x1.Key x2.Key),bs_ge _ _,go ?_⟩
 exact cC h rfl (fun c3 h=>xE) fun c3 h=>cN
 exact cU h slices_ContainsFunc_Write__batch_May_1_walk [] fun y2 h=>eF
def dj (y1:Int×(Str×Bool)) (a1:Int) (a2:Str) (a3:Bool) (a4:(List Write)):Option ((Int×Str×Bool×(List Write))⊕(Str×Bool×(List Write))):=
 if (decide (a1<y1.1)) then
 (batch_num a2 a3 1).bind fun y2=>
 (batch_text y2.2.1 y2.2.2 32).bind fun y3=>
 (batch_text y3.2.1 y3.2.2 64).bind fun y4=>
 aL ((a4.length+1)*40≤140737488355328)<|
 some (.inl ((IntKind.u64.wrap (a1+1)),y4.2.1,y4.2.2,(a4++[(⟨y3.1,y4.1,(decide (y2.1=1))⟩:Write)])))
 else
 some (.inr (a2,a3,a4))
def batch_Take (s:Str):Option (Batch×Int):=
 (batch_num s true 2).bind fun y1=>
 (batch_text y1.2.1 y1.2.2 16).bind fun y2=>
 (batch_num y2.2.1 y2.2.2 24).bind fun y4=>
 (loop (fun (s1:Int×Str×Bool×(List Write))=>dj y4 s1.1 s1.2.1 s1.2.2.1 s1.2.2.2) ((0:Int),y4.2.1,y4.2.2,([]:(List Write)))).bind fun (y5:Str×Bool×(List Write))=>
 (if (!y5.2.1) then some true else
 if (!decide (y5.1=[])) then some true else
 (batch_May (⟨(IntKind.i64.wrap y1.1),y2.1,y5.2.2⟩:Batch)).bind fun y6=>
 some (!y6)).bind fun (y7:Bool)=>
 if y7 then some ((⟨0,[],[]⟩:Batch),3) else
 some ((⟨(IntKind.i64.wrap y1.1),y2.1,y5.2.2⟩:Batch),0)
theorem batch_Take_walk {s r} (h:batch_Take s=some r):pP 65 [vS s] (.tup [.agg (encBatch r.1),vI r.2]):=by
 unfold batch_Take at h
 refine pW (G:=⟨tys,[103,104],[],[]⟩) ct mixed Tryz.func65 rfl fun g=>go ?_
 refine cU h batch_num_walk [1] fun y1 h=>⟨(IntKind.i64.wrap y1.1),rfl,go ?_⟩
 refine cU h batch_text_walk [1] fun y2 h=>go ?_
 refine cU h batch_num_walk [1] fun y4 h=>go ?_
 refine lQ h (fun s1=>⟨81,0,ab [(2,.ptr 0 0),(4,.ptr 1 0),(5,.ptr 2 0),(30,vU y4.1),(31,vU s1.1)],[.var 100 [vI 0,vS [],vN],.var 194 [vS s1.2.1,vB s1.2.2.1,.fn (.func 103) [] [],.fn (.func 104) [] []],.var 100 [vI (IntKind.i64.wrap y1.1),vS y2.1,.row 3 ((List.map am s1.2.2.2).length)],.row 67 3 (List.map am s1.2.2.2)]⟩) (aO (.exit 0) (fun y5=>⟨81,0,ab [(2,.ptr 0 0),(4,.ptr 1 0),(5,.ptr 2 0)],[.var 100 [vI 0,vS [],vN],.var 194 [vS y5.1,vB y5.2.1,.fn (.func 103) [] [],.fn (.func 104) [] []],.var 100 [vI (IntKind.i64.wrap y1.1),vS y2.1,.row 3 ((List.map am y5.2.2).length)],.row 67 3 (List.map am y5.2.2)]⟩)) (bl.trans (dF 2 2 67 3 rfl rfl) (wF (.s (.s (.cons (.var (.cons (.same rfl) (.cons (.same rfl) (.cons (.same (show (.row 3 0:AV)=(.row 3 ((List.map am []).length):AV) from congrArg (AV.row 3) (by simp))) (.nil))))) .rest))) (.all rfl))) ?_ <|bO fun y5 _ h w=>wk w (gN 1 ?_)
 rintro y5 ⟨a1,a2,a3,a4⟩ v1 h r
 replace h:dj y4 a1 a2 a3 a4=some v1:=h
 unfold dj at h
 dsimp only
 refine go ?_
 refine cC h rfl (fun c1 h=>go ?_) fun c1 h=>xE
 refine cU h batch_num_walk [1] fun y6 h=>go ?_
 refine cU h batch_text_walk [1] fun y7 h=>go ?_
 refine cU h batch_text_walk [1] fun y8 h=>go ?_
 refine ⟨List.map am [(⟨y7.1,y8.1,(decide (y6.1=1))⟩:Write)],rfl,rfl,rfl,go ?_⟩
 refine nD h fun p1 h=>⟨by simp only [List.length_map];exact p1,List.map am (a4++[(⟨y7.1,y8.1,(decide (y6.1=1))⟩:Write)]),dk am _ _ rfl rfl,cN⟩
 refine k1 h (fun y9=>⟨81,0,ab [(2,.ptr 0 0),(5,.ptr 2 0),(78,vB y9)],[.var 100 [vI 0,vS [],vN],.gone,.var 100 [vI (IntKind.i64.wrap y1.1),vS y2.1,.row 3 ((List.map am y5.2.2).length)],.row 67 3 (List.map am y5.2.2)]⟩) (fun y9 h=>go ?_) fun y9 h=>?_
 refine cM h (fun c2 h=>go ?_) fun c2 h=>⟨_,bs_ne _ _,go ?_⟩
 cases h
 exact ⟨rfl,(wF (.s (.g .rest)) (.all rfl))⟩
 refine cM h (fun c3 h=>go ?_) fun c3 h=>⟨rfl,go ?_⟩
 cases h
 exact ⟨rfl,(wF (.s (.g .rest)) (.all rfl))⟩
 refine cP h batch_May_walk fun y10 h=>go ?_
 cases h
 exact ⟨rfl,(wF (.s (.g .rest)) (.all rfl))⟩
 exact cC h rfl (fun c4 h=>eF) fun c4 h=>eF
def table_at_1 (p:Pair) (v:Str):Option (Bool):=
 some (decide (p.Key=v))
theorem table_at_1_walk {p v r} (h:table_at_1 p v=some r):pH 164 [.var 9 [vS v]] [.agg (ac p),.ptr 0 0] (vB r) [.var 9 [vS v]]:=by
 unfold table_at_1 at h
 refine pC0 Tryz.func164 rfl fun g=>go ?_
 refine ⟨_,bs_eq _ _,go ?_⟩
 exact eP ⟨8,1,ab [(3,vB (decide (p.Key=v)))],[.var 9 [vS v]]⟩ wA
def bh (s:(List Pair)) (v:Str) (a1:Int):Option ((Int)⊕((Int)⊕(Unit))):=
 if (decide (a1<(s.length:Int))) then
 (ix s a1).bind fun x1=>
 (table_at_1 x1 v).bind fun y1=>
 if y1 then some (.inr (.inl a1)) else
 some (.inl (IntKind.i64.wrap (a1+1)))
 else
 some (.inr (.inr ()))
def cR (s:(List Pair)) (v:Str):Option (Int):=
 (loop (fun (s1:Int)=>bh s v s1) (0:Int)).bind fun (y1:(Int)⊕(Unit))=>
 match y1 with
 |(.inl v1)=>
  some v1
 |(.inr v2)=>
 some (-1)
theorem slices_IndexFunc_Pair__table_at_1_walk {s v r} (h:cR s v=some r):pH 161 [.var 9 [vS v]] [sL ac s,.fn (.func 164) [] [.ptr 0 0]] (vI r) [.var 9 [vS v]]:=by
 unfold cR at h
 refine pC (G:=⟨tys,[164],[],[]⟩) ct mixed Tryz.func161 rfl fun g=>go ?_
 refine ⟨_,(aA _ _).symm,go ?_⟩
 refine lQ h (fun s1=>⟨19,1,ab [(0,sL ac s),(1,.fn (.func 164) [] [.ptr 0 0]),(7,vI (s.length:Int)),(8,vI s1)],[.var 9 [vS v]]⟩) (Sum.elim (aO .ret (fun v1=>⟨19,1,ab [(4,vI v1)],[.var 9 [vS v]]⟩)) (aO (.exit 0) (fun _=>⟨19,1,ab [],[.var 9 [vS v]]⟩))) wA ?_ <|bE (bO fun v1 _ h w=>go ?_)<|bO fun v2 _ h w=>wk w (go ?_)
 rintro y1 a1 v3 h r
 replace h:bh s v a1=some v3:=h
 unfold bh at h
 refine go ?_
 refine cC h rfl (fun c1 h=>go ?_) fun c1 h=>xE
 refine bD h fun x1 q1 h=>⟨(af q1).1,_,al ac (af q1).2,rfl,go ?_⟩
 refine cU h table_at_1_walk [0] fun y2 h=>go ?_
 exact cC h rfl (fun c2 h=>xE) fun c2 h=>cN
 exact eP ⟨19,1,ab [(4,vI v1)],[.var 9 [vS v]]⟩ (bl.trans w wA)
 exact eP ⟨19,1,ab [(4,vI (-1))],[.var 9 [vS v]]⟩ wA
def table_at (l:(List Pair)) (key:Str):Option (Int):=
 (cR l key).bind fun y1=>
 some y1
theorem table_at_walk {l key r} (h:table_at l key=some r):pP 108 [sL ac l,vS key] (vI r):=by
 unfold table_at at h
 refine pW (G:=⟨tys,[161],[],[]⟩) ct mixed Tryz.func108 rfl fun g=>go ?_
 exact cU h slices_IndexFunc_Pair__table_at_1_walk [0] fun y1 h=>eF
def table_Find (l:(List Pair)) (key:Str):Option (Str×Bool):=
 (table_at l key).bind fun y1=>
 if (decide (y1<0)) then some ([],false) else
 (ix l y1).bind fun x1=>
 some (x1.Val,true)
theorem table_Find_walk {l key r} (h:table_Find l key=some r):pP 67 [sL ac l,vS key] (.tup [vS r.1,vB r.2]):=by
 unfold table_Find at h
 refine pW0 Tryz.func67 rfl fun g=>go ?_
 refine cP h table_at_walk fun y1 h=>go ?_
 refine cC h rfl (fun c1 h=>eF) fun c1 h=>go ?_
 refine bD h fun x1 q1 h=>⟨(af q1).1,_,al ac (af q1).2,rfl,eF⟩
def batch_Decided (s:State) (token:Str):Option (Str×Bool):=
 (table_Find s.Toks token).bind fun y1=>
 some (y1.1,y1.2)
theorem batch_Decided_walk {s token r} (h:batch_Decided s token=some r):pP 37 [.agg (encState s),vS token] (.tup [vS r.1,vB r.2]):=by
 unfold batch_Decided at h
 refine pW0 Tryz.func37 rfl fun g=>go ?_
 exact cP h table_Find_walk fun y1 h=>eF
def table_Drop_1 (p:Pair) (v:Str):Option (Bool):=
 some (decide (p.Key=v))
theorem table_Drop_1_walk {p v r} (h:table_Drop_1 p v=some r):pH 217 [.var 9 [vS v]] [.agg (ac p),.ptr 0 0] (vB r) [.var 9 [vS v]]:=by
 unfold table_Drop_1 at h
 refine pC0 Tryz.func217 rfl fun g=>go ?_
 refine ⟨_,bs_eq _ _,go ?_⟩
 exact eP ⟨8,1,ab [(3,vB (decide (p.Key=v)))],[.var 9 [vS v]]⟩ wA
def aX (l:(List Pair)) (v:Str) (a1:Int):Option ((Int)⊕((Int)⊕(Unit))):=
 if (decide (a1<(l.length:Int))) then
 (ix l a1).bind fun x1=>
 (table_Drop_1 x1 v).bind fun y1=>
 if y1 then some (.inr (.inl a1)) else
 some (.inl (IntKind.i64.wrap (a1+1)))
 else
 some (.inr (.inr ()))
def cw (l:(List Pair)) (v:Str):Option (Int):=
 (loop (fun (s1:Int)=>aX l v s1) (0:Int)).bind fun (y1:(Int)⊕(Unit))=>
 match y1 with
 |(.inl v1)=>
  some v1
 |(.inr v2)=>
 some (-1)
theorem slices_IndexFunc_Pair__table_Drop_1_walk {l v r} (h:cw l v=some r):pH 161 [.row 103 2 (List.map ac l),.var 9 [vS v]] [.row 0 ((List.map ac l).length),.fn (.func 217) [] [.ptr 1 0]] (vI r) [.row 103 2 (List.map ac l),.var 9 [vS v]]:=by
 unfold cw at h
 refine pC (G:=⟨tys,[217],[],[]⟩) ct mixed Tryz.func161 rfl fun g=>go ?_
 refine ⟨rfl,(l.length:Int),by simp,go ?_⟩
 refine lQ h (fun s1=>⟨19,2,ab [(0,.row 0 ((List.map ac l).length)),(1,.fn (.func 217) [] [.ptr 1 0]),(7,vI (l.length:Int)),(8,vI s1)],[.row 103 2 (List.map ac l),.var 9 [vS v]]⟩) (Sum.elim (aO .ret (fun v1=>⟨19,2,ab [(4,vI v1)],[.row 103 2 (List.map ac l),.var 9 [vS v]]⟩)) (aO (.exit 0) (fun _=>⟨19,2,ab [],[.row 103 2 (List.map ac l),.var 9 [vS v]]⟩))) wA ?_ <|bE (bO fun v1 _ h w=>go ?_)<|bO fun v2 _ h w=>wk w (go ?_)
 rintro y1 a1 v3 h r
 replace h:aX l v a1=some v3:=h
 unfold aX at h
 refine go ?_
 refine cC h rfl (fun c1 h=>go ?_) fun c1 h=>xE
 obtain ⟨x1,q1,h⟩:=bind_some h
 refine ⟨⟨rfl,(bX q1).1,by have:=bX q1;simp only [List.length_map,List.length_set,List.length_cons,List.length_nil] at*;omega⟩,?_⟩
 refine ⟨rfl,_,al ac (af q1).2,go ?_⟩
 refine cU h table_Drop_1_walk [1] fun y2 h=>go ?_
 exact cC h rfl (fun c2 h=>xE) fun c2 h=>cN
 exact eP ⟨19,2,ab [(4,vI v1)],[.row 103 2 (List.map ac l),.var 9 [vS v]]⟩ (bl.trans w wA)
 exact eP ⟨19,2,ab [(4,vI (-1))],[.row 103 2 (List.map ac l),.var 9 [vS v]]⟩ wA
def aU (v:Str) (a1 a2:Int) (a3:(List Pair)):Option ((Int×Int×(List Pair))⊕(Int×(List Pair))):=
 if (decide (a2<(a3.length:Int))) then
 ((ix a3 a2).bind fun x1=>
 (table_Drop_1 x1 v).bind fun y1=>
 if (!y1) then
 (ix a3 a1).bind fun x2=>
 some ((IntKind.i64.wrap (a1+1)),(List.set a3 (a1).toNat x1))
 else
 some (a1,a3)).bind fun (y2:Int×(List Pair))=>
 some (.inl (y2.1,(IntKind.i64.wrap (a2+1)),y2.2))
 else
 some (.inr (a1,a3))
def bB (l:(List Pair)) (v:Str):Option ((List Pair)):=
 (cw l v).bind fun y1=>
 if (decide (y1=(-1))) then some l else
 (loop (fun (s1:Int×Int×(List Pair))=>aU v s1.1 s1.2.1 s1.2.2) (y1,(IntKind.i64.wrap (y1+1)),l)).bind fun (y2:Int×(List Pair))=>
 aL (0<y2.2.length)<|
 aL ((0:Int)≤y2.1∧y2.1≤(y2.2.length:Int)∧(y2.2.length:Int)≤(y2.2.length:Int))<|
 aL (0<(List.take ((y2.1).toNat) y2.2++List.replicate (((((List.map ac y2.2).length:Nat):Int).toNat) - ((y2.1).toNat)) ((⟨[],[]⟩:Pair):Pair)++List.drop ((((List.map ac y2.2).length:Nat):Int).toNat) y2.2).length)<|
 aL ((0:Int)≤(0:Int)∧0≤y2.1∧y2.1≤((List.take ((y2.1).toNat) y2.2++List.replicate (((((List.map ac y2.2).length:Nat):Int).toNat) - ((y2.1).toNat)) ((⟨[],[]⟩:Pair):Pair)++List.drop ((((List.map ac y2.2).length:Nat):Int).toNat) y2.2).length:Int))<|
 some (List.drop ((0:Int).toNat) (List.take ((y2.1).toNat) (List.take ((y2.1).toNat) y2.2++List.replicate (((((List.map ac y2.2).length:Nat):Int).toNat) - ((y2.1).toNat)) ((⟨[],[]⟩:Pair):Pair)++List.drop ((((List.map ac y2.2).length:Nat):Int).toNat) y2.2)))
theorem slices_DeleteFunc_Pair__table_Drop_1_walk {l v r} (h:bB l v=some r):pH 216 [.row 103 2 (List.map ac l),.var 9 [vS v]] [.row 0 ((List.map ac l).length),.fn (.func 217) [] [.ptr 1 0]] (sL ac r) [.gone,.var 9 [vS v]]:=by
 unfold bB at h
 refine pC (G:=⟨tys,[161,217],[],[]⟩) ct mixed Tryz.func216 rfl fun g=>go ?_
 refine cU h slices_IndexFunc_Pair__table_Drop_1_walk [0,1] fun y1 h=>go ?_
 refine cC h rfl (fun c1 h=>go ?_) fun c1 h=>go ?_
 exact eP ⟨42,2,ab [(4,sL ac l)],[.gone,.var 9 [vS v]]⟩ (bl.trans (aK 0 rfl) (wF (.g .rest) (.f (.all rfl))))
 refine lQ h (fun s1=>⟨42,2,ab [(0,.row 0 ((List.map ac s1.2.2).length)),(1,.fn (.func 217) [] [.ptr 1 0]),(5,vI s1.1),(6,vI s1.2.1)],[.row 103 2 (List.map ac s1.2.2),.var 9 [vS v]]⟩) (aO (.exit 0) (fun y2=>⟨42,2,ab [(0,.row 0 ((List.map ac y2.2).length)),(5,vI y2.1)],[.row 103 2 (List.map ac y2.2),.var 9 [vS v]]⟩)) wA ?_ <|bO fun y2 _ h w=>wk w (go ?_)
 rintro y2 ⟨a1,a2,a3⟩ v1 h r
 replace h:aU v a1 a2 a3=some v1:=h
 unfold aU at h
 dsimp only
 refine go ?_
 refine ⟨rfl,(a3.length:Int),by simp,go ?_⟩
 refine cC h rfl (fun c2 h=>gN 1 ?_) fun c2 h=>xE
 refine k1 h (fun y3=>⟨42,2,ab [(0,.row 0 ((List.map ac y3.2).length)),(1,.fn (.func 217) [] [.ptr 1 0]),(5,vI y3.1),(6,vI a2)],[.row 103 2 (List.map ac y3.2),.var 9 [vS v]]⟩) (fun y3 h=>go ?_) fun y3 h=>cN
 obtain ⟨x1,q1,h⟩:=bind_some h
 refine ⟨⟨rfl,(bX q1).1,by have:=bX q1;simp only [List.length_map,List.length_set,List.length_cons,List.length_nil] at*;omega⟩,?_⟩
 refine ⟨rfl,_,al ac (af q1).2,go ?_⟩
 refine cU h table_Drop_1_walk [1] fun y4 h=>go ?_
 refine cC h rfl (fun c3 h=>go ?_) fun c3 h=>cE
 obtain ⟨x2,q2,h⟩:=bind_some h
 refine ⟨⟨rfl,(bX q2).1,by have:=bX q2;simp only [List.length_map,List.length_set,List.length_cons,List.length_nil] at*;omega⟩,?_⟩
 refine ⟨rfl,_,al ac (af q2).2,Nat.le_of_ble_eq_true rfl,List.map ac (List.set a3 (a1).toNat x1),map_set ac _ _ _ rfl,go ?_⟩
 cases h
 exact ⟨rfl,wI⟩
 obtain ⟨p1,h⟩:=au h
 refine ⟨⟨rfl,by have:=p1;simp only [List.length_map,List.length_append,List.length_take,List.length_drop,List.length_replicate,List.length_set] at*;omega⟩,?_⟩
 refine go ?_
 refine nD h fun p2 h=>⟨by have:=p2;simp only [List.length_map,List.length_append,List.length_take,List.length_drop,List.length_replicate,List.length_set] at*;omega,rfl,List.map ac (List.take ((y2.1).toNat) y2.2++List.replicate (((((List.map ac y2.2).length:Nat):Int).toNat) - ((y2.1).toNat)) ((⟨[],[]⟩:Pair):Pair)++List.drop ((((List.map ac y2.2).length:Nat):Int).toNat) y2.2),by rw [List.map_append,List.map_append,List.map_take,List.map_drop,List.map_replicate];rfl,go ?_⟩
 obtain ⟨p3,h⟩:=au h
 refine ⟨⟨by first|(simp;done)|(simp only [List.length_map,List.length_append,List.length_take,List.length_drop,List.length_replicate,List.length_set,List.length_mergeSort];omega),by have:=p3;simp only [List.length_map,List.length_append,List.length_take,List.length_drop,List.length_replicate,List.length_set] at*;omega⟩,?_⟩
 refine go ?_
 refine nD h fun p4 h=>⟨by have:=p4;simp only [List.length_map,List.length_append,List.length_take,List.length_drop,List.length_replicate,List.length_set] at*;omega,go ?_⟩
 exact eP ⟨42,2,ab [(4,sL ac (List.drop ((0:Int).toNat) (List.take ((y2.1).toNat) (List.take ((y2.1).toNat) y2.2++List.replicate (((((List.map ac y2.2).length:Nat):Int).toNat) - ((y2.1).toNat)) ((⟨[],[]⟩:Pair):Pair)++List.drop ((((List.map ac y2.2).length:Nat):Int).toNat) y2.2))))],[.gone,.var 9 [vS v]]⟩ (bl.trans (aK 0 rfl) (wF (.g .rest) (.cons (.one (.frzvw rfl (by first|(simp;done)|(simp only [List.length_map,List.length_append,List.length_take,List.length_drop,List.length_replicate,List.length_set,List.length_mergeSort];omega)) (by rw [List.map_drop,List.map_take]))) (.all rfl))))
def table_Drop (l:(List Pair)) (key:Str):Option ((List Pair)):=
 aL (l.length*32≤140737488355328)<|
 (bB l key).bind fun y1=>
 some y1
theorem table_Drop_walk {l key r} (h:table_Drop l key=some r):pP 198 [sL ac l,vS key] (sL ac r):=by
 unfold table_Drop at h
 refine pW (G:=⟨tys,[216],[(158,103,2)],[]⟩) ct mixed Tryz.func198 rfl fun g=>go ?_
 obtain ⟨p1,h⟩:=au h
 refine mF (clone_158 l p1) (go ?_)
 exact cU h slices_DeleteFunc_Pair__table_Drop_1_walk [1,0] fun y1 h=>eF
def table_write_drop (w_:table_write) (l:(List Pair)):Option ((List Pair)):=
 (table_Drop l w_.Write.Key).bind fun y1=>
 some y1
theorem table_write_drop_walk {w_ l r} (h:table_write_drop w_ l=some r):pP 160 [.agg (enctable_write w_),sL ac l] (sL ac r):=by
 unfold table_write_drop at h
 refine pW0 Tryz.func160 rfl fun g=>go ?_
 exact cP h table_Drop_walk fun y1 h=>eF
def table_Put_1 (p:Pair) (v:Str):Option (Bool):=
 some (!(ltS p.Key v||decide (p.Key=v)))
theorem table_Put_1_walk {p v r} (h:table_Put_1 p v=some r):pH 162 [.var 9 [vS v]] [.agg (ac p),.ptr 0 0] (vB r) [.var 9 [vS v]]:=by
 unfold table_Put_1 at h
 refine pC0 Tryz.func162 rfl fun g=>go ?_
 refine ⟨(!(ltS p.Key v||decide (p.Key=v))),bs_gt _ _,go ?_⟩
 exact eP ⟨8,1,ab [(3,vB (!(ltS p.Key v||decide (p.Key=v))))],[.var 9 [vS v]]⟩ wA
def bc (l:(List Pair)) (v:Str) (a1:Int):Option ((Int)⊕((Int)⊕(Unit))):=
 if (decide (a1<(l.length:Int))) then
 (ix l a1).bind fun x1=>
 (table_Put_1 x1 v).bind fun y1=>
 if y1 then some (.inr (.inl a1)) else
 some (.inl (IntKind.i64.wrap (a1+1)))
 else
 some (.inr (.inr ()))
def cz (l:(List Pair)) (v:Str):Option (Int):=
 (loop (fun (s1:Int)=>bc l v s1) (0:Int)).bind fun (y1:(Int)⊕(Unit))=>
 match y1 with
 |(.inl v1)=>
  some v1
 |(.inr v2)=>
 some (-1)
theorem slices_IndexFunc_Pair__table_Put_1_walk {l v r} (h:cz l v=some r):pH 161 [.row 103 2 (List.map ac l),.var 9 [vS v]] [.row 0 ((List.map ac l).length),.fn (.func 162) [] [.ptr 1 0]] (vI r) [.row 103 2 (List.map ac l),.var 9 [vS v]]:=by
 unfold cz at h
 refine pC (G:=⟨tys,[162],[],[]⟩) ct mixed Tryz.func161 rfl fun g=>go ?_
 refine ⟨rfl,(l.length:Int),by simp,go ?_⟩
 refine lQ h (fun s1=>⟨19,2,ab [(0,.row 0 ((List.map ac l).length)),(1,.fn (.func 162) [] [.ptr 1 0]),(7,vI (l.length:Int)),(8,vI s1)],[.row 103 2 (List.map ac l),.var 9 [vS v]]⟩) (Sum.elim (aO .ret (fun v1=>⟨19,2,ab [(4,vI v1)],[.row 103 2 (List.map ac l),.var 9 [vS v]]⟩)) (aO (.exit 0) (fun _=>⟨19,2,ab [],[.row 103 2 (List.map ac l),.var 9 [vS v]]⟩))) wA ?_ <|bE (bO fun v1 _ h w=>go ?_)<|bO fun v2 _ h w=>wk w (go ?_)
 rintro y1 a1 v3 h r
 replace h:bc l v a1=some v3:=h
 unfold bc at h
 refine go ?_
 refine cC h rfl (fun c1 h=>go ?_) fun c1 h=>xE
 obtain ⟨x1,q1,h⟩:=bind_some h
 refine ⟨⟨rfl,(bX q1).1,by have:=bX q1;simp only [List.length_map,List.length_set,List.length_cons,List.length_nil] at*;omega⟩,?_⟩
 refine ⟨rfl,_,al ac (af q1).2,go ?_⟩
 refine cU h table_Put_1_walk [1] fun y2 h=>go ?_
 exact cC h rfl (fun c2 h=>xE) fun c2 h=>cN
 exact eP ⟨19,2,ab [(4,vI v1)],[.row 103 2 (List.map ac l),.var 9 [vS v]]⟩ (bl.trans w wA)
 exact eP ⟨19,2,ab [(4,vI (-1))],[.row 103 2 (List.map ac l),.var 9 [vS v]]⟩ wA
def table_Put (l:(List Pair)) (key val:Str):Option ((List Pair)):=
 aL (l.length*32≤140737488355328)<|
 (table_at l key).bind fun y1=>
 if (decide (y1≥0)) then
 (ix l y1).bind fun x1=>
 some (List.set l (y1).toNat (⟨key,val⟩:Pair))
 else
 (cz l key).bind fun y2=>
 if (decide (y2<0)) then
 aL ((l.length+1)*32≤140737488355328)<|
 some (l++[(⟨key,val⟩:Pair)])
 else
 aL (0≤y2∧y2<(l.length:Int)∧(l.length+1)*32≤140737488355328)<|
 some (List.take y2.toNat l++[(⟨key,val⟩:Pair)]++List.drop y2.toNat l)
theorem table_Put_walk {l key val r} (h:table_Put l key val=some r):pP 107 [sL ac l,vS key,vS val] (sL ac r):=by
 unfold table_Put at h
 refine pW (G:=⟨tys,[161,163],[(158,103,2)],[]⟩) ct mixed Tryz.func107 rfl fun g=>go ?_
 obtain ⟨p1,h⟩:=au h
 refine mF (clone_158 l p1) (go ?_)
 refine ⟨rfl,go ?_⟩
 refine cP h table_at_walk fun y1 h=>go ?_
 refine cC h rfl (fun c1 h=>go ?_) fun c1 h=>go ?_
 obtain ⟨x1,q1,h⟩:=bind_some h
 refine ⟨⟨rfl,(bX q1).1,by have:=bX q1;simp only [List.length_map,List.length_set,List.length_cons,List.length_nil] at*;omega⟩,?_⟩
 refine ⟨rfl,_,al ac (af q1).2,Nat.le_of_ble_eq_true rfl,List.map ac (List.set l (y1).toNat (⟨key,val⟩:Pair)),map_set ac _ _ _ rfl,go ?_⟩
 refine dt ⟨by first|(simp;done)|(simp only [List.length_map,List.length_append,List.length_take,List.length_drop,List.length_replicate,List.length_set,List.length_mergeSort];omega),go ?_⟩
 cases h
 rfl
 refine cU h slices_IndexFunc_Pair__table_Put_1_walk [2,0] fun y2 h=>go ?_
 refine cC h rfl (fun c2 h=>go ?_) fun c2 h=>go ?_
 refine ⟨List.map ac [(⟨key,val⟩:Pair)],rfl,rfl,rfl,go ?_⟩
 refine nD h fun p2 h=>⟨by simp only [List.length_map];exact p2,List.map ac (l++[(⟨key,val⟩:Pair)]),dk ac _ _ rfl rfl,eF⟩
 refine ⟨List.map ac [(⟨key,val⟩:Pair)],rfl,go ?_⟩
 obtain ⟨p3,h⟩:=au h
 exact mC (insert_163 ac l (⟨key,val⟩:Pair) y2 p3) [2,3] eF
def table_write_put (w_:table_write) (l:(List Pair)):Option ((List Pair)):=
 (table_Put l w_.Write.Key w_.Write.Val).bind fun y1=>
 some y1
theorem table_write_put_walk {w_ l r} (h:table_write_put w_ l=some r):pP 159 [.agg (enctable_write w_),sL ac l] (sL ac r):=by
 unfold table_write_put at h
 refine pW0 Tryz.func159 rfl fun g=>go ?_
 exact cP h table_Put_walk fun y1 h=>eF
def table_Apply_l2 (w_:(List Write)) (a1:(List Pair)) (a2:Int):Option (((List Pair)×Int)⊕((List Pair))):=
 if (decide (a2<(w_.length:Int))) then
 ((ix w_ a2).bind fun x1=>
 (if x1.Del then some (.inl ()) else
 some (.inr ())).bind fun (y1:(Unit)⊕(Unit))=>
 match y1 with
 |(.inl v1)=>
  (table_write_drop (⟨x1⟩:table_write) a1).bind fun y2=>
  some y2
 |(.inr v2)=>
 (table_write_put (⟨x1⟩:table_write) a1).bind fun y3=>
 some y3:Option ((List Pair))).bind fun y4=>
 some (.inl (y4,(IntKind.i64.wrap (a2+1))))
 else
 some (.inr a1)
def table_Apply (l:(List Pair)) (w_:(List Write)):Option ((List Pair)):=
 aL (l.length*32≤140737488355328)<|
 (loop (fun (s1:(List Pair)×Int)=>table_Apply_l2 w_ s1.1 s1.2) (l,(0:Int))).bind fun (y1:(List Pair))=>
 some y1
theorem table_Apply_walk {l w_ r} (h:table_Apply l w_=some r):pP 106 [sL ac l,sL am w_] (sL ac r):=by
 unfold table_Apply at h
 refine pW (G:=⟨tys,[],[(158,103,2)],[]⟩) ct mixed Tryz.func106 rfl fun g=>go ?_
 obtain ⟨p1,h⟩:=au h
 refine mF (clone_158 l p1) (go ?_)
 refine ⟨_,(aA _ _).symm,go ?_⟩
 refine lQ h (fun s1=>⟨29,0,ab [(0,sL ac s1.1),(10,sL am w_),(11,vI (w_.length:Int)),(12,vI s1.2)],[]⟩) (aO (.exit 0) (fun y1=>⟨29,0,ab [(0,sL ac y1)],[]⟩)) (bl.trans (aK 0 rfl) (wF .rest (.f (.all rfl)))) ?_ <|bO fun y1 _ h w=>wk w eF
 rintro y1 ⟨a1,a2⟩ v1 h r
 replace h:table_Apply_l2 w_ a1 a2=some v1:=h
 unfold table_Apply_l2 at h
 dsimp only
 refine go ?_
 refine cC h rfl (fun c1 h=>gN 1 ?_) fun c1 h=>xE
 refine k1 h (fun y2=>⟨29,0,ab [(0,sL ac y2),(10,sL am w_),(11,vI (w_.length:Int)),(12,vI a2)],[]⟩) (fun y2 h=>go ?_) fun y2 h=>cN
 refine bD h fun x1 q1 h=>⟨(af q1).1,_,al am (af q1).2,rfl,gN 2 ?_⟩
 refine kS h (Sum.elim (aO .normal (fun _=>⟨29,0,ab [(0,sL ac a1),(7,.fn (.func 160) [.agg [vS x1.Key,vS x1.Val,vB x1.Del]] []),(10,sL am w_),(11,vI (w_.length:Int)),(12,vI a2)],[]⟩)) (aO .normal (fun _=>⟨29,0,ab [(0,sL ac a1),(7,.fn (.func 159) [.agg [vS x1.Key,vS x1.Val,vB x1.Del]] []),(10,sL am w_),(11,vI (w_.length:Int)),(12,vI a2)],[]⟩))) (fun y3 h=>go ?_)<|bE (bO fun v2 _ h w=>wk w (go ?_))<|bO fun v3 _ h w=>wk w (go ?_)
 exact cC h rfl (fun c2 h=>cE) fun c2 h=>cE
 exact cP h table_write_drop_walk fun y4 h=>cE
 exact cP h table_write_put_walk fun y5 h=>cE
def batch_Do (s:State) (b:Batch):Option (State×Int):=
 (batch_May b).bind fun y1=>
 if (!y1) then some (s,1) else
 (batch_Decided s b.Token).bind fun y2=>
 if y2.2 then some (s,8) else
 (table_Apply s.Data b.Writes).bind fun y3=>
 (table_Put s.Toks b.Token (if (decide (b.Kind=2)) then [103] else [99])).bind fun y5=>
 some ((⟨y3,y5⟩:State),0)
theorem batch_Do_walk {s b r} (h:batch_Do s b=some r):pP 66 [.agg (encState s),.agg (encBatch b)] (.tup [.agg (encState r.1),vI r.2]):=by
 unfold batch_Do at h
 refine pW0 Tryz.func66 rfl fun g=>go ?_
 refine cP h batch_May_walk fun y1 h=>go ?_
 refine cC h rfl (fun c1 h=>eF) fun c1 h=>go ?_
 refine cP h batch_Decided_walk fun y2 h=>go ?_
 refine cC h rfl (fun c2 h=>eF) fun c2 h=>gN 3 ?_
 refine k0 ⟨37,0,ab [(2,.ptr 0 0),(3,.ptr 1 0),(4,.ptr 2 0),(8,vS (if (decide (b.Kind=2)) then [103] else [99]))],[.var 29 (encState s),.var 100 (encBatch b),.var 29 [vN,vN]]⟩ (go ?_) (go ?_)
 exact cD (decide (b.Kind=2)) rfl (fun i1=>cI) fun i1=>cI
 refine cp.one 12 (.k [0,1,2,3,5,6,7,8,9] (.o 4 (.o 10 (.k [11] .fin)))) [] (by kernel_rfl) ⟨go ?_,⟨⟩⟩
 refine cP h table_Apply_walk fun y3 h=>⟨go ?_,⟨⟩⟩
 exact cP h table_Put_walk fun y5 h=>eF
def kv_Open_l2 (y1:Disk×(List Str)×Int×Int) (a1:Int) (a2 a3:(List Pair)):Option ((Int×(List Pair)×(List Pair))⊕((Int)⊕((List Pair)×(List Pair)))):=
 if (decide (a1<(y1.2.1.length:Int))) then
 (ix y1.2.1 a1).bind fun x1=>
 (batch_Take x1).bind fun y2=>
 if (!(decide (y2.2=0))) then some (.inr (.inl y2.2)) else
 (batch_Do (⟨a2,a3⟩:State) y2.1).bind fun y3=>
 some (.inl ((IntKind.i64.wrap (a1+1)),y3.1.Data,y3.1.Toks))
 else
 some (.inr (.inr (a2,a3)))
def kv_Open (d:Disk):Option (Store×Int):=
 ((disk_Read d [109]).bind fun y1=>
 if (decide (y1.2=0)) then
 (kv_TakeManifest y1.1).bind fun y2=>
 if (!(decide (y2.2.2=0))) then some (.inr y2.2.2) else
 some (.inl (y2.1,y2.2.1))
 else
 some (.inl (1,0))).bind fun (y3:(Int×Int)⊕(Int))=>
 match y3 with
 |(.inl v1)=>
  (kv_based d v1.2).bind fun y4=>
  if (!(decide (y4.2=0))) then some ((⟨(⟨[],0,0,false⟩:Disk),0,0,0,(⟨[],[]⟩:State),false⟩:Store),y4.2) else
  (wal_Recover d v1.1).bind fun y5=>
  if (!(decide (y5.2.2.2=0))) then some ((⟨(⟨[],0,0,false⟩:Disk),0,0,0,(⟨[],[]⟩:State),false⟩:Store),y5.2.2.2) else
  (loop (fun (s1:Int×(List Pair)×(List Pair))=>kv_Open_l2 y5 s1.1 s1.2.1 s1.2.2) ((0:Int),y4.1.Data,y4.1.Toks)).bind fun (y6:(Int)⊕((List Pair)×(List Pair)))=>
  match y6 with
  |(.inl v2)=>
   some ((⟨(⟨[],0,0,false⟩:Disk),0,0,0,(⟨[],[]⟩:State),false⟩:Store),v2)
  |(.inr v3)=>
  some ((⟨y5.1,v1.1,y5.2.2.1,v1.2,(⟨v3.1,v3.2⟩:State),false⟩:Store),0)
 |(.inr v4)=>
 some ((⟨(⟨[],0,0,false⟩:Disk),0,0,0,(⟨[],[]⟩:State),false⟩:Store),v4)
theorem kv_Open_walk {d r} (h:kv_Open d=some r):pP 36 [.agg (aG d)] (.tup [.agg (encStore r.1),vI r.2]):=by
 unfold kv_Open at h
 refine pW0 Tryz.func36 rfl fun g=>gN 4 ?_
 refine kS h (Sum.elim (aO .normal (fun v1=>⟨93,0,ab [(1,.ptr 0 0),(2,.ptr 1 0),(4,.ptr 2 0)],[.var 26 (aG d),.var 31 [vN,vI 0,vI 0,vB false,vI 0,vI 0,vI 0,vN,vN,vB false],.var 31 [vN,vI 0,vI 0,vB false,vI v1.1,vI 0,vI v1.2,vN,vN,vB false]]⟩)) (aO .ret (fun v2=>⟨93,0,ab [(2,.ptr 1 0),(3,vI v2)],[.gone,.var 31 [vN,vI 0,vI 0,vB false,vI 0,vI 0,vI 0,vN,vN,vB false]]⟩))) (fun y1 h=>go ?_)<|bE (bO fun v1 _ h w=>wk w (go ?_))<|bO fun v2 _ h w=>eFw
 refine cP h disk_Read_walk fun y2 h=>go ?_
 refine cC h rfl (fun c1 h=>go ?_) fun c1 h=>cE
 refine cP h kv_TakeManifest_walk fun y3 h=>go ?_
 refine cC h rfl (fun c2 h=>go ?_) fun c2 h=>cE
 cases h
 exact ⟨rfl,(wF (.g .rest) (.all rfl))⟩
 refine cP h kv_based_walk fun y4 h=>go ?_
 refine cC h rfl (fun c3 h=>eF) fun c3 h=>go ?_
 refine cP h wal_Recover_walk fun y5 h=>go ?_
 refine cC h rfl (fun c4 h=>eF) fun c4 h=>go ?_
 refine ⟨_,(aA _ _).symm,go ?_⟩
 refine lQ h (fun s1=>⟨93,0,ab [(1,.ptr 0 0),(2,.ptr 1 0),(4,.ptr 2 0),(10,.ptr 3 0),(13,vI y5.2.2.1),(64,sL encS y5.2.1),(65,vI (y5.2.1.length:Int)),(66,vI s1.1)],[.var 26 (aG y5.1),.var 31 [vN,vI 0,vI 0,vB false,vI 0,vI 0,vI 0,vN,vN,vB false],.var 31 [vN,vI 0,vI 0,vB false,vI v1.1,vI 0,vI v1.2,vN,vN,vB false],.var 29 [sL ac s1.2.1,sL ac s1.2.2]]⟩) (Sum.elim (aO .ret (fun v3=>⟨93,0,ab [(2,.ptr 1 0),(3,vI v3)],[.gone,.var 31 [vN,vI 0,vI 0,vB false,vI 0,vI 0,vI 0,vN,vN,vB false]]⟩)) (aO (.exit 0) (fun v4=>⟨93,0,ab [(1,.ptr 0 0),(2,.ptr 1 0),(4,.ptr 2 0),(10,.ptr 3 0),(13,vI y5.2.2.1)],[.var 26 (aG y5.1),.var 31 [vN,vI 0,vI 0,vB false,vI 0,vI 0,vI 0,vN,vN,vB false],.var 31 [vN,vI 0,vI 0,vB false,vI v1.1,vI 0,vI v1.2,vN,vN,vB false],.var 29 [sL ac v4.1,sL ac v4.2]]⟩))) wA ?_ <|bE (bO fun v3 _ h w=>eFw)<|bO fun v4 _ h w=>wk w (go ?_)
 rintro y6 ⟨a1,a2,a3⟩ v5 h r
 replace h:kv_Open_l2 y5 a1 a2 a3=some v5:=h
 unfold kv_Open_l2 at h
 dsimp only
 refine go ?_
 refine cC h rfl (fun c5 h=>go ?_) fun c5 h=>xE
 refine bD h fun x1 q1 h=>⟨(af q1).1,_,al encS (af q1).2,rfl,go ?_⟩
 refine cP h batch_Take_walk fun y7 h=>go ?_
 refine cC h rfl (fun c6 h=>go ?_) fun c6 h=>go ?_
 cases h
 obtain rfl:=r _ rfl
 exact ⟨rfl,(wF (.g .rest) (.all rfl))⟩
 exact cP h batch_Do_walk fun y8 h=>cN
 exact cp.one 7 (.k [0,1,2,3] (.o 4 (.k [5] (.o 6 .fin)))) [2,4,5,6,7,8,9] (by kernel_rfl) ⟨⟨eF,⟨⟩⟩,⟨⟩⟩
def engine_New (d:Disk):Option (Engine×Int):=
 (kv_Open d).bind fun y1=>
 if (!(decide (y1.2=0))) then some ((⟨(⟨(⟨[],0,0,false⟩:Disk),0,0,0,(⟨[],[]⟩:State),false⟩:Store),(⟨[],[]⟩:Locks),[],0,0⟩:Engine),y1.2) else
 some ((⟨y1.1,(⟨[],[]⟩:Locks),[],1,0⟩:Engine),0)
theorem engine_New_walk {d r} (h:engine_New d=some r):pP 22 [.agg (aG d)] (.tup [.agg (ag r.1),vI r.2]):=by
 unfold engine_New at h
 refine pW0 Tryz.func22 rfl fun g=>go ?_
 refine cP h kv_Open_walk fun y1 h=>go ?_
 exact cC h rfl (fun c1 h=>eF) fun c1 h=>eF
def engine_Begin_1 (t:Txn) (v:Str):Option (Bool):=
 some (decide (t.Token=v))
theorem engine_Begin_1_walk {t v r} (h:engine_Begin_1 t v=some r):pH 39 [.var 9 [vS v]] [.agg (aB t),.ptr 0 0] (vB r) [.var 9 [vS v]]:=by
 unfold engine_Begin_1 at h
 refine pC0 Tryz.func39 rfl fun g=>go ?_
 refine ⟨_,bs_eq _ _,go ?_⟩
 exact eP ⟨8,1,ab [(3,vB (decide (t.Token=v)))],[.var 9 [vS v]]⟩ wA
def aS (s:(List Txn)) (v:Str) (a1:Int):Option ((Int)⊕((Int)⊕(Unit))):=
 if (decide (a1<(s.length:Int))) then
 (ix s a1).bind fun x1=>
 (engine_Begin_1 x1 v).bind fun y1=>
 if y1 then some (.inr (.inl a1)) else
 some (.inl (IntKind.i64.wrap (a1+1)))
 else
 some (.inr (.inr ()))
def cm (s:(List Txn)) (v:Str):Option (Int):=
 (loop (fun (s1:Int)=>aS s v s1) (0:Int)).bind fun (y1:(Int)⊕(Unit))=>
 match y1 with
 |(.inl v1)=>
  some v1
 |(.inr v2)=>
 some (-1)
theorem slices_IndexFunc_Txn__engine_Begin_1_walk {s v r} (h:cm s v=some r):pH 46 [.var 9 [vS v]] [sL aB s,.fn (.func 39) [] [.ptr 0 0]] (vI r) [.var 9 [vS v]]:=by
 unfold cm at h
 refine pC (G:=⟨tys,[39],[],[]⟩) ct mixed Tryz.func46 rfl fun g=>go ?_
 refine ⟨_,(aA _ _).symm,go ?_⟩
 refine lQ h (fun s1=>⟨19,1,ab [(0,sL aB s),(1,.fn (.func 39) [] [.ptr 0 0]),(7,vI (s.length:Int)),(8,vI s1)],[.var 9 [vS v]]⟩) (Sum.elim (aO .ret (fun v1=>⟨19,1,ab [(4,vI v1)],[.var 9 [vS v]]⟩)) (aO (.exit 0) (fun _=>⟨19,1,ab [],[.var 9 [vS v]]⟩))) wA ?_ <|bE (bO fun v1 _ h w=>go ?_)<|bO fun v2 _ h w=>wk w (go ?_)
 rintro y1 a1 v3 h r
 replace h:aS s v a1=some v3:=h
 unfold aS at h
 refine go ?_
 refine cC h rfl (fun c1 h=>go ?_) fun c1 h=>xE
 refine bD h fun x1 q1 h=>⟨(af q1).1,_,al aB (af q1).2,rfl,go ?_⟩
 refine cU h engine_Begin_1_walk [0] fun y2 h=>go ?_
 exact cC h rfl (fun c2 h=>xE) fun c2 h=>cN
 exact eP ⟨19,1,ab [(4,vI v1)],[.var 9 [vS v]]⟩ (bl.trans w wA)
 exact eP ⟨19,1,ab [(4,vI (-1))],[.var 9 [vS v]]⟩ wA
def bo (s:(List Txn)) (v:Str):Option (Bool):=
 (cm s v).bind fun y1=>
 some (decide (y1≥0))
theorem slices_ContainsFunc_Txn__engine_Begin_1_walk {s v r} (h:bo s v=some r):pH 38 [.var 9 [vS v]] [sL aB s,.fn (.func 39) [] [.ptr 0 0]] (vB r) [.var 9 [vS v]]:=by
 unfold bo at h
 refine pC (G:=⟨tys,[46],[],[]⟩) ct mixed Tryz.func38 rfl fun g=>go ?_
 refine cU h slices_IndexFunc_Txn__engine_Begin_1_walk [0] fun y1 h=>go ?_
 exact eP ⟨9,1,ab [(4,vB (decide (y1≥0)))],[.var 9 [vS v]]⟩ wA
def engine_Begin (e:Engine) (token:Str):Option (Engine×Int×Int):=
 (batch_Decided e.X.S token).bind fun y1=>
 (bo e.T token).bind fun y2=>
 if e.X.Down then some (e,0,6) else
 if ((decide ((token.length:Int)<1))||(decide ((token.length:Int)>16))) then some (e,0,1) else
 if y1.2 then some (e,0,8) else
 if y2 then some (e,0,9) else
 if (decide ((e.T.length:Int)≥6)) then some (e,0,11) else
 if (decide ((IntKind.i64.wrap ((e.X.S.Toks.length:Int)+(e.T.length:Int)))≥64)) then some (e,0,5) else
 aL (e.T.length*136≤140737488355328)<|
 aL ((e.T.length+1)*136≤140737488355328)<|
 some ((⟨e.X,e.L,(e.T++[(⟨e.Next,token,[],false,(⟨0,[],[],[],[],0⟩:Op_)⟩:Txn)]),(IntKind.i64.wrap (e.Next+1)),e.Now⟩:Engine),e.Next,0)
theorem engine_Begin_walk {e token r} (h:engine_Begin e token=some r):pP 23 [.agg (ag e),vS token] (.tup [.agg (ag r.1),vI r.2.1,vI r.2.2]):=by
 unfold engine_Begin at h
 refine pW (G:=⟨tys,[38],[(40,46,10)],[]⟩) ct mixed Tryz.func23 rfl fun g=>go ?_
 refine cP h batch_Decided_walk fun y1 h=>go ?_
 refine cU h slices_ContainsFunc_Txn__engine_Begin_1_walk [1] fun y2 h=>go ?_
 refine cC h rfl (fun c1 h=>eF) fun c1 h=>(k0 ⟨79,0,ab [(2,.ptr 0 0),(3,.ptr 1 0),(4,.ptr 2 0),(8,vB y1.2),(9,vB y2),(28,vB ((decide ((token.length:Int)<1))||(decide ((token.length:Int)>16))))],[.var 39 (ag e),.var 9 [vS token],.var 39 [vN,vI 0,vI 0,vB false,vI 0,vI 0,vI 0,vN,vN,vB false,vN,vN,vN,vI 0,vU 0]]⟩ (go ?_) ((cC h rfl (fun c2 h=>eF) fun c2 h=>go ?_)))
 refine ⟨(token.length:Int),rfl,go ?_⟩
 exact cK (decide ((token.length:Int)<1)) (fun i1=>cI) fun i1=>⟨(token.length:Int),rfl,cI⟩
 refine cC h rfl (fun c3 h=>eF) fun c3 h=>go ?_
 refine cC h rfl (fun c4 h=>eF) fun c4 h=>go ?_
 refine ⟨_,(aA _ _).symm,go ?_⟩
 refine cC h rfl (fun c5 h=>eF) fun c5 h=>go ?_
 refine ⟨_,(aA _ _).symm,_,(aA _ _).symm,go ?_⟩
 refine cC h rfl (fun c6 h=>eF) fun c6 h=>go ?_
 obtain ⟨p1,h⟩:=au h
 obtain ⟨p2,h⟩:=au h
 refine cp.many 9 (.k [0,1,3,4,5] (.alt 2 (.o 6 (.o 7 (.k [8] .fin))) (.o 6 (.o 2 (.o 7 (.k [8] .fin)))))) [] (⟨79,0,ab [(2,.ptr 0 0),(4,.ptr 2 0),(10,vI e.Next),(71,sL aB (e.T++[(⟨e.Next,token,[],false,(⟨0,[],[],[],[],0⟩:Op_)⟩:Txn)])),(72,.ptr 0 12)],[.var 39 (ag e),.var 9 [vS token],.var 39 [vN,vI 0,vI 0,vB false,vI 0,vI 0,vI 0,vN,vN,vB false,vN,vN,vN,vI 0,vU 0]]⟩) (by kernel_rfl) ⟨go ?_,⟨⟨List.map aB [(⟨e.Next,token,[],false,(⟨0,[],[],[],[],0⟩:Op_)⟩:Txn)],rfl,go ?_,⟨⟩⟩,⟨⟩⟩⟩ eF
 refine mF (clone_40 e.T p1) ⟨⟨List.map aB [(⟨e.Next,token,[],false,(⟨0,[],[],[],[],0⟩:Op_)⟩:Txn)],rfl,⟨rfl,rfl,by simp only [List.length_map];exact p2,List.map aB (e.T++[(⟨e.Next,token,[],false,(⟨0,[],[],[],[],0⟩:Op_)⟩:Txn)]),dk aB _ _ rfl rfl,go ?_⟩,⟨⟩⟩,⟨⟩⟩
 exact bl.trans (aK 3 rfl) (wF .rest (.s (.s (.s (.f (.all rfl))))))
 refine mF (clone_40 e.T p1) ⟨⟨rfl,rfl,by simp only [List.length_map];exact p2,List.map aB (e.T++[(⟨e.Next,token,[],false,(⟨0,[],[],[],[],0⟩:Op_)⟩:Txn)]),dk aB _ _ rfl rfl,go ?_⟩,⟨⟩⟩
 exact bl.trans (aK 4 rfl) (wF .rest (.s (.s (.s (.f (.all rfl))))))
def engine_at_1 (t:Txn) (v:Int):Option (Bool):=
 some (decide (t.Id=v))
theorem engine_at_1_walk {t v r} (h:engine_at_1 t v=some r):pH 47 [.var 3 [vI v]] [.agg (aB t),.ptr 0 0] (vB r) [.var 3 [vI v]]:=by
 unfold engine_at_1 at h
 refine pC0 Tryz.func47 rfl fun g=>go ?_
 exact eP ⟨8,1,ab [(3,vB (decide (t.Id=v)))],[.var 3 [vI v]]⟩ wA
def bg (s:(List Txn)) (v a1:Int):Option ((Int)⊕((Int)⊕(Unit))):=
 if (decide (a1<(s.length:Int))) then
 (ix s a1).bind fun x1=>
 (engine_at_1 x1 v).bind fun y1=>
 if y1 then some (.inr (.inl a1)) else
 some (.inl (IntKind.i64.wrap (a1+1)))
 else
 some (.inr (.inr ()))
def bu (s:(List Txn)) (v:Int):Option (Int):=
 (loop (fun (s1:Int)=>bg s v s1) (0:Int)).bind fun (y1:(Int)⊕(Unit))=>
 match y1 with
 |(.inl v1)=>
  some v1
 |(.inr v2)=>
 some (-1)
theorem slices_IndexFunc_Txn__engine_at_1_walk {s v r} (h:bu s v=some r):pH 46 [.var 3 [vI v]] [sL aB s,.fn (.func 47) [] [.ptr 0 0]] (vI r) [.var 3 [vI v]]:=by
 unfold bu at h
 refine pC (G:=⟨tys,[47],[],[]⟩) ct mixed Tryz.func46 rfl fun g=>go ?_
 refine ⟨_,(aA _ _).symm,go ?_⟩
 refine lQ h (fun s1=>⟨19,1,ab [(0,sL aB s),(1,.fn (.func 47) [] [.ptr 0 0]),(7,vI (s.length:Int)),(8,vI s1)],[.var 3 [vI v]]⟩) (Sum.elim (aO .ret (fun v1=>⟨19,1,ab [(4,vI v1)],[.var 3 [vI v]]⟩)) (aO (.exit 0) (fun _=>⟨19,1,ab [],[.var 3 [vI v]]⟩))) wA ?_ <|bE (bO fun v1 _ h w=>go ?_)<|bO fun v2 _ h w=>wk w (go ?_)
 rintro y1 a1 v3 h r
 replace h:bg s v a1=some v3:=h
 unfold bg at h
 refine go ?_
 refine cC h rfl (fun c1 h=>go ?_) fun c1 h=>xE
 refine bD h fun x1 q1 h=>⟨(af q1).1,_,al aB (af q1).2,rfl,go ?_⟩
 refine cU h engine_at_1_walk [0] fun y2 h=>go ?_
 exact cC h rfl (fun c2 h=>xE) fun c2 h=>cN
 exact eP ⟨19,1,ab [(4,vI v1)],[.var 3 [vI v]]⟩ (bl.trans w wA)
 exact eP ⟨19,1,ab [(4,vI (-1))],[.var 3 [vI v]]⟩ wA
def engine_at (e:Engine) (id:Int):Option (Int):=
 (bu e.T id).bind fun y1=>
 some y1
theorem engine_at_walk {e id r} (h:engine_at e id=some r):pP 25 [.agg (ag e),vI id] (vI r):=by
 unfold engine_at at h
 refine pW (G:=⟨tys,[46],[],[]⟩) ct mixed Tryz.func25 rfl fun g=>go ?_
 exact cU h slices_IndexFunc_Txn__engine_at_1_walk [1] fun y1 h=>eF
def dw (e:Engine) (id:Int):Option (Txn×Bool):=
 (engine_at e id).bind fun y1=>
 if (decide (y1<0)) then some ((⟨0,[],[],false,(⟨0,[],[],[],[],0⟩:Op_)⟩:Txn),false) else
 (ix e.T y1).bind fun x1=>
 some (x1,true)
theorem cr {e id r} (h:dw e id=some r):pP 12 [.agg (ag e),vI id] (.tup [.agg (aB r.1),vB r.2]):=by
 unfold dw at h
 refine pW0 Tryz.func12 rfl fun g=>go ?_
 refine cP h engine_at_walk fun y1 h=>go ?_
 refine cC h rfl (fun c1 h=>eF) fun c1 h=>go ?_
 refine bD h fun x1 q1 h=>⟨(af q1).1,_,al aB (af q1).2,rfl,eF⟩
def engine_Ask_1 (e2:Int) (v:Engine) (v1:Int):Option (Engine×(List Done)):=
 some (v,[(⟨v1,e2,[],false,[],false⟩:Done)])
theorem engine_Ask_1_walk {e2 v v1 r} (h:engine_Ask_1 e2 v v1=some r):pH 27 [.var 39 (ag v),.var 3 [vI v1]] [vI e2,.ptr 0 0,.ptr 1 0] (.tup [.agg (ag r.1),sL ak r.2]) [.var 39 (ag v),.var 3 [vI v1]]:=by
 unfold engine_Ask_1 at h
 refine pC0 Tryz.func27 rfl fun g=>go ?_
 refine cp.many 6 (.k [0,1,2,3] (.alt 4 (.o 5 .fin) (.o 5 (.o 4 .fin)))) [2,3,4,5,6,7,8] (⟨11,2,ab [(4,.ptr 2 0),(10,sL ak [(⟨v1,e2,[],false,[],false⟩:Done)])],[.var 39 (ag v),.var 3 [vI v1],.var 39 (ag v)]⟩) (by kernel_rfl) ⟨⟨List.map ak [(⟨v1,e2,[],false,[],false⟩:Done)],rfl,go ?_,⟨⟩⟩,⟨⟨⟨List.map ak [(⟨v1,e2,[],false,[],false⟩:Done)],rfl,go ?_⟩,⟨⟩⟩,⟨⟩⟩⟩ (go ?_)
 exact bl.trans (aK 3 rfl) (wF .rest (.s (.f (.all rfl))))
 exact bl.trans (aK 3 rfl) (wF .rest (.s (.f (.all rfl))))
 exact eP ⟨11,2,ab [(4,.ptr 2 0),(5,sL ak [(⟨v1,e2,[],false,[],false⟩:Done)])],[.var 39 (ag v),.var 3 [vI v1],.var 39 (ag v)]⟩ wA
def engine_may (op:Op_):Option (Bool):=
 (if (decide (op.Kind=2)) then
 if ((decide ((op.Key.length:Int)≥1))&&(decide ((op.Key.length:Int)≤32))) then some (.inl (decide ((op.Val.length:Int)≤64))) else
 some (.inl false)
 else
 if ((decide (op.Kind=1))||(decide (op.Kind=3))) then some (.inl ((decide ((op.Key.length:Int)≥1))&&(decide ((op.Key.length:Int)≤32)))) else
 if (decide (op.Kind=4)) then some (.inr (.inl ())) else
 some (.inr (.inr ()))).bind fun (y1:(Bool)⊕(Unit)⊕(Unit))=>
 match y1 with
 |(.inl v1)=>
  some v1
 |(.inr (.inl v2))=>
  if (decide ((op.Lo.length:Int)≤32)) then
  if (decide ((op.Hi.length:Int)≤32)) then
  if (decide (op.Most≥1)) then some (decide (op.Most≤16)) else
  some false
  else
  some false
  else
  some false
 |(.inr (.inr v3))=>
 if (decide (op.Kind=5)) then some true else
 some (decide (op.Kind=6))
theorem engine_may_walk {op r} (h:engine_may op=some r):pP 28 [.agg (encOp_ op)] (vB r):=by
 unfold engine_may at h
 refine pW0 Tryz.func28 rfl fun g=>gN 2 ?_
 refine k0 ⟨59,0,ab [(1,.ptr 0 0),(3,vB ((decide ((op.Key.length:Int)≥1))&&(decide ((op.Key.length:Int)≤32))))],[.var 44 (encOp_ op)]⟩ (go ?_) (gN 6 ?_)
 refine ⟨(op.Key.length:Int),rfl,go ?_⟩
 exact cK (decide ((op.Key.length:Int)≥1)) (fun i1=>⟨(op.Key.length:Int),rfl,cI⟩) fun i1=>cI
 refine kS h (Sum.elim (aO .normal (fun v1=>⟨59,0,ab [(3,vB v1)],[]⟩)) (Sum.elim (aO (.exit 3) (fun _=>⟨59,0,ab [(1,.ptr 0 0)],[.var 44 (encOp_ op)]⟩)) (aO (.exit 0) (fun _=>⟨59,0,ab [(1,.ptr 0 0)],[.var 44 (encOp_ op)]⟩)))) (fun y1 h=>go ?_)<|bE (bO fun v1 _ h w=>wk w eF) (bE (bO fun v2 _ h w=>wk w (go ?_))<|bO fun v3 _ h w=>wk w (go ?_))
 refine cC h rfl (fun c1 h=>go ?_) fun c1 h=>gN 2 ?_
 exact cM h (fun c2 h=>⟨(op.Val.length:Int),rfl,cE⟩) fun c2 h=>cE
 refine k0 ⟨59,0,ab [(1,.ptr 0 0),(3,vB ((decide ((op.Key.length:Int)≥1))&&(decide ((op.Key.length:Int)≤32)))),(15,vI op.Kind),(18,vB ((decide (op.Kind=1))||(decide (op.Kind=3))))],[.var 44 (encOp_ op)]⟩ (go ?_) ((cC h rfl (fun c3 h=>cE) fun c3 h=>go ?_))
 exact cD (decide (op.Kind=1)) rfl (fun i1=>cI) fun i1=>cI
 exact cC h rfl (fun c4 h=>cE) fun c4 h=>cE
 refine ⟨(op.Lo.length:Int),rfl,go ?_⟩
 refine cM h (fun c5 h=>⟨(op.Hi.length:Int),rfl,go ?_⟩) fun c5 h=>eF
 refine cM h (fun c6 h=>go ?_) fun c6 h=>eF
 exact cM h (fun c7 h=>eF) fun c7 h=>eF
 exact cM h (fun c8 h=>eF) fun c8 h=>eF
def dec_Text (t:Str):Option (Str):=
 (dec_Num (IntKind.u64.wrap (t.length:Int))).bind fun y1=>
 aL (y1.length+t.length≤9223372036854775807)<|
 some (y1++t)
theorem dec_Text_walk {t r} (h:dec_Text t=some r):pP 122 [vS t] (vS r):=by
 unfold dec_Text at h
 refine pW0 Tryz.func122 rfl fun g=>go ?_
 refine ⟨(t.length:Int),rfl,(IntKind.u64.wrap (t.length:Int)),rfl,go ?_⟩
 refine cP h dec_Num_walk fun y1 h=>go ?_
 refine nD h fun p1 h=>⟨p1,_,dD _ _,eF⟩
def batch_Bytes_l2 (b:Batch) (a1:Int) (a2:Str):Option ((Int×Str)⊕(Str)):=
 if (decide (a1<(b.Writes.length:Int))) then
 (ix b.Writes a1).bind fun x1=>
 (dec_Num (if x1.Del then 1 else 0)).bind fun y1=>
 (dec_Text x1.Key).bind fun y2=>
 aL (y1.length+y2.length≤9223372036854775807)<|
 (dec_Text x1.Val).bind fun y3=>
 aL ((y1++y2).length+y3.length≤9223372036854775807)<|
 aL (0<((y1++y2)++y3).length∧a2.length+((y1++y2)++y3).length≤140737488355328)<|
 some (.inl ((IntKind.i64.wrap (a1+1)),(a2++((y1++y2)++y3))))
 else
 some (.inr a2)
def batch_Bytes (b:Batch):Option (Str×Int):=
 (batch_May b).bind fun y1=>
 if (!y1) then some ([],1) else
 (dec_Num (IntKind.u64.wrap b.Kind)).bind fun y2=>
 (dec_Text b.Token).bind fun y3=>
 aL (y2.length+y3.length≤9223372036854775807)<|
 (dec_Num (IntKind.u64.wrap (b.Writes.length:Int))).bind fun y5=>
 aL ((y2++y3).length+y5.length≤9223372036854775807)<|
 aL (0<((y2++y3)++y5).length∧([]:Str).length+((y2++y3)++y5).length≤140737488355328)<|
 (loop (fun (s1:Int×Str)=>batch_Bytes_l2 b s1.1 s1.2) ((0:Int),(([]:Str)++((y2++y3)++y5)))).bind fun (y6:Str)=>
 aL (0<y6.length)<|
 some (y6,0)
theorem batch_Bytes_walk {b r} (h:batch_Bytes b=some r):pP 73 [.agg (encBatch b)] (.tup [vS r.1,vI r.2]):=by
 unfold batch_Bytes at h
 refine pW (G:=⟨tys,[120,123],[],[]⟩) ct mixed Tryz.func73 rfl fun g=>go ?_
 refine cP h batch_May_walk fun y1 h=>go ?_
 refine cC h rfl (fun c1 h=>eF) fun c1 h=>gN 4 ?_
 refine dz.weak (show bl _ ⟨48,0,ab [(0,.agg (encBatch b)),(1,.ptr 0 0),(2,vS []),(3,vI 0),(4,.ptr 1 0),(8,.agg [vI b.Kind,vS b.Token,sL am b.Writes]),(9,vB y1),(10,vB false)],[.var 100 (encBatch b),.var 214 [.v (.pointer none),.row 2 ((List.map byteU ([]:Str)).length)],.row 5 1 (List.map byteU ([]:Str))]⟩ from bl.trans (dF 1 1 5 1 rfl rfl) wA) (go ?_)
 refine cp.one 15 (.k [0,1,2,4,5,8,9,10,11] (.o 3 (.o 6 (.k [7] (.o 12 (.k [13] (.o 14 .fin))))))) [1] (by kernel_rfl) ⟨(IntKind.u64.wrap b.Kind),rfl,_,(aA _ _).symm,(IntKind.u64.wrap (b.Writes.length:Int)),rfl,go ?_,⟨⟩⟩
 refine cP h dec_Num_walk fun y2 h=>⟨go ?_,⟨⟩⟩
 refine cP h dec_Text_walk fun y3 h=>go ?_
 refine nD h fun p1 h=>⟨p1,_,dD _ _,go ?_,⟨⟩⟩
 refine cP h dec_Num_walk fun y5 h=>go ?_
 refine nD h fun p2 h=>⟨p2,_,dD _ _,go ?_,⟨⟩⟩
 obtain ⟨p3,h⟩:=au h
 refine mC (bwrite_120 (.inl rfl) ([]:Str) ((y2++y3)++y5) p3) [1,2] (go ?_)
 refine ⟨_,(aA _ _).symm,go ?_⟩
 refine lQ h (fun s1=>⟨48,0,ab [(4,.ptr 1 0),(27,sL am b.Writes),(28,vI (b.Writes.length:Int)),(29,vI s1.1)],[.gone,.var 214 [.ptr 1 0,.row 2 ((List.map byteU s1.2).length)],.row 5 1 (List.map byteU s1.2)]⟩) (aO (.exit 0) (fun y6=>⟨48,0,ab [(4,.ptr 1 0)],[.gone,.var 214 [.ptr 1 0,.row 2 ((List.map byteU y6).length)],.row 5 1 (List.map byteU y6)]⟩)) (wF (.g .rest) (.all rfl)) ?_ <|bO fun y6 _ h w=>wk w (go ?_)
 rintro y6 ⟨a1,a2⟩ v1 h r
 replace h:batch_Bytes_l2 b a1 a2=some v1:=h
 unfold batch_Bytes_l2 at h
 dsimp only
 refine go ?_
 refine cC h rfl (fun c2 h=>go ?_) fun c2 h=>xE
 refine bD h fun x1 q1 h=>⟨(af q1).1,_,al am (af q1).2,rfl,gN 2 ?_⟩
 refine k0 ⟨48,0,ab [(4,.ptr 1 0),(6,.ptr 3 0),(7,vU (if x1.Del then 1 else 0)),(27,sL am b.Writes),(28,vI (b.Writes.length:Int)),(29,vI a1)],[.gone,.var 214 [.ptr 1 0,.row 2 ((List.map byteU a2).length)],.row 5 1 (List.map byteU a2),.var 67 (am x1)]⟩ (go ?_) (go ?_)
 exact cD (x1.Del) rfl (fun i1=>cI) fun i1=>cI
 refine cp.one 11 (.k [0,2,3,6,7] (.o 1 (.o 4 (.k [5] (.o 8 (.k [9] (.o 10 .fin))))))) [1] (by kernel_rfl) ⟨go ?_,⟨⟩⟩
 refine cP h dec_Num_walk fun y7 h=>⟨go ?_,⟨⟩⟩
 refine cP h dec_Text_walk fun y8 h=>go ?_
 refine nD h fun p4 h=>⟨p4,_,dD _ _,go ?_,⟨⟩⟩
 refine cP h dec_Text_walk fun y9 h=>go ?_
 refine nD h fun p5 h=>⟨p5,_,dD _ _,go ?_,⟨⟩⟩
 obtain ⟨p6,h⟩:=au h
 exact mC (bwrite_120 (.inr rfl) a2 ((y7++y8)++y9) p6) [1,2] cN
 obtain ⟨p7,h⟩:=au h
 exact mC (bstr_123 (.ptr 0 0) y6 p7) [1,2] eF
def sum_Seal (s:Str):Option (Str):=
 (dec_Text s).bind fun y1=>
 (sum_Of s).bind fun y2=>
 (dec_Num (IntKind.u64.wrap y2)).bind fun y4=>
 aL (y1.length+y4.length≤9223372036854775807)<|
 some (y1++y4)
theorem sum_Seal_walk {s r} (h:sum_Seal s=some r):pP 126 [vS s] (vS r):=by
 unfold sum_Seal at h
 refine pW0 Tryz.func126 rfl fun g=>go ?_
 refine cP h dec_Text_walk fun y1 h=>go ?_
 refine cP h sum_Of_walk fun y2 h=>⟨(IntKind.u64.wrap y2),rfl,go ?_⟩
 refine cP h dec_Num_walk fun y4 h=>go ?_
 refine nD h fun p1 h=>⟨p1,_,dD _ _,eF⟩
def wal_Put (d:Disk) (seg:Int) (rec:Str):Option (Disk×Int×Int):=
 (wal_may seg).bind fun y1=>
 if (!y1) then some (d,seg,1) else
 if (decide ((rec.length:Int)>2048)) then some (d,seg,4) else
 ((wal_Name seg).bind fun y2=>
 (disk_Read d y2).bind fun y3=>
 if (decide ((y3.1.length:Int)≥256)) then
 (wal_Name seg).bind fun y4=>
 (disk_Sync d y4).bind fun y6=>
 ((if (decide (y6.2=0)) then
 (wal_may (IntKind.i64.wrap (seg+1))).bind fun y7=>
 some y7
 else
 some false).bind fun (y8:Bool)=>
 if y8 then some (.inr ()) else
 if (decide (y6.2=0)) then some (.inl 5) else
 some (.inl y6.2)).bind fun (y9:(Int)⊕(Unit))=>
 match y9 with
 |(.inl v1)=>
  some (.inr (v1,y6.1.Files,y6.1.Room,y6.1.Fuse,y6.1.Off))
 |(.inr v2)=>
 some (.inl ((IntKind.i64.wrap (seg+1)),y6.1.Files,y6.1.Room,y6.1.Fuse,y6.1.Off))
 else
 some (.inl (seg,d.Files,d.Room,d.Fuse,d.Off)):Option ((Int×(List File)×Int×Int×Bool)⊕(Int×(List File)×Int×Int×Bool))).bind fun y10=>
 match y10 with
 |(.inl v3)=>
  (wal_Name v3.1).bind fun y11=>
  (sum_Seal rec).bind fun y12=>
  (disk_Append (⟨v3.2.1,v3.2.2.1,v3.2.2.2.1,v3.2.2.2.2⟩:Disk) y11 y12).bind fun y13=>
  some (y13.1,v3.1,y13.2)
 |(.inr v4)=>
 some ((⟨v4.2.1,v4.2.2.1,v4.2.2.2.1,v4.2.2.2.2⟩:Disk),seg,v4.1)
theorem wal_Put_walk {d seg rec r} (h:wal_Put d seg rec=some r):pP 74 [.agg (aG d),vI seg,vS rec] (.tup [.agg (aG r.1),vI r.2.1,vI r.2.2]):=by
 unfold wal_Put at h
 refine pW0 Tryz.func74 rfl fun g=>go ?_
 refine cP h wal_may_walk fun y1 h=>go ?_
 refine cC h rfl (fun c1 h=>eF) fun c1 h=>go ?_
 refine ⟨(rec.length:Int),rfl,go ?_⟩
 refine cC h rfl (fun c2 h=>eF) fun c2 h=>gN 1 ?_
 refine kS h (Sum.elim (aO .normal (fun v1=>⟨72,0,ab [(1,vI v1.1),(2,vS rec),(3,.ptr 0 0),(6,.ptr 1 0)],[.var 26 [sL ar v1.2.1,vI v1.2.2.1,vI v1.2.2.2.1,vB v1.2.2.2.2],.var 26 [vN,vI 0,vI 0,vB false]]⟩)) (aO .ret (fun v2=>⟨72,0,ab [(6,.ptr 1 0),(7,vI seg),(8,vI v2.1)],[.gone,.var 26 [sL ar v2.2.1,vI v2.2.2.1,vI v2.2.2.2.1,vB v2.2.2.2.2]]⟩))) (fun y2 h=>go ?_)<|bE (bO fun v1 _ h w=>wk w (go ?_))<|bO fun v2 _ h w=>eFw
 refine cp.one 9 (.k [0,1] (.o 2 (.o 3 (.k [4,5,6,7,8] .fin)))) [] (by kernel_rfl) ⟨go ?_,⟨⟩⟩
 refine cP h bp fun y3 h=>⟨go ?_,⟨⟩⟩
 refine cP h disk_Read_walk fun y4 h=>go ?_
 refine ⟨(y4.1.length:Int),rfl,go ?_⟩
 refine cC h rfl (fun c3 h=>go ?_) fun c3 h=>cE
 obtain ⟨y6,q1,h⟩:=bind_some h
 obtain ⟨y7,q2,h⟩:=bind_some h
 refine cp.many 9 (.k [0,1] (.alt 2 (.alt 3 (.k [4,5,6] (.o 7 (.o 8 .fin))) (.o 7 (.o 3 (.k [4,5,6] (.o 8 .fin))))) (.o 7 (.o 2 (.o 3 (.k [4,5,6] (.o 8 .fin))))))) [2,3,4,5,6,7] (⟨72,0,ab [(1,vI seg),(2,vS rec),(3,.ptr 0 0),(6,.ptr 1 0),(11,.ptr 2 0),(42,vI y7.2)],[.var 26 (aG d),.var 26 [vN,vI 0,vI 0,vB false],.var 26 (aG y7.1)]⟩) (by kernel_rfl) ⟨go ?_,⟨⟨go ?_,⟨⟩⟩,⟨⟩⟩⟩ (gN 1 ?_)
 refine mP (bp q1) ⟨go ?_,⟨⟨go ?_,⟨⟩⟩,⟨⟩⟩⟩
 exact mP (disk_Sync_walk q2) ⟨⟨cA,⟨⟩⟩,⟨⟩⟩
 exact mP (disk_Sync_walk q2) ⟨cA,⟨⟩⟩
 refine mP (bp q1) ⟨go ?_,⟨⟩⟩
 exact mP (disk_Sync_walk q2) ⟨cA,⟨⟩⟩
 refine kS h (Sum.elim (aO .normal (fun v3=>⟨72,0,ab [(1,vI seg),(6,.ptr 1 0),(11,.ptr 2 0),(12,vI v3)],[.gone,.var 26 [vN,vI 0,vI 0,vB false],.var 26 (aG y7.1)]⟩)) (aO (.exit 1) (fun _=>⟨72,0,ab [(1,vI (IntKind.i64.wrap (seg+1))),(2,vS rec),(3,.ptr 0 0),(6,.ptr 1 0)],[.var 26 (aG y7.1),.var 26 [vN,vI 0,vI 0,vB false]]⟩))) (fun y8 h=>gN 7 ?_)<|bE (bO fun v3 _ h w=>wk w cE)<|bO fun v4 _ h w=>cEw
 refine k1 h (fun y9=>⟨72,0,ab [(1,vI seg),(2,vS rec),(3,.ptr 0 0),(6,.ptr 1 0),(11,.ptr 2 0),(12,vI y7.2),(43,vB y9)],[.var 26 (aG d),.var 26 [vN,vI 0,vI 0,vB false],.var 26 (aG y7.1)]⟩) (fun y9 h=>go ?_) fun y9 h=>(cC h rfl (fun c4 h=>cE) fun c4 h=>go ?_)
 refine cM h (fun c5 h=>go ?_) fun c5 h=>cE
 exact cP h wal_may_walk fun y10 h=>cE
 refine cC h rfl (fun c6 h=>go ?_) fun c6 h=>go ?_
 cases h
 exact ⟨rfl,(wF (.g .rest) (.all rfl))⟩
 cases h
 exact ⟨rfl,(wF (.g .rest) (.all rfl))⟩
 obtain ⟨y11,q3,h⟩:=bind_some h
 obtain ⟨y12,q4,h⟩:=bind_some h
 obtain ⟨y13,q5,h⟩:=bind_some h
 refine cp.many 10 (.k [1,3] (.alt 0 (.o 2 (.o 4 (.o 5 (.k [6,7,8] (.o 9 .fin))))) (.o 2 (.alt 0 (.o 4 (.o 5 (.k [6,7,8] (.o 9 .fin)))) (.o 4 (.o 0 (.o 5 (.k [6,7,8] (.o 9 .fin))))))))) [0,2,3,4,5,6,7] (⟨72,0,ab [(1,vI v1.1),(3,.ptr 0 0),(6,.ptr 1 0),(68,vI y13.2)],[.var 26 (aG y13.1),.var 26 [vN,vI 0,vI 0,vB false]]⟩) (by kernel_rfl) ⟨⟨go ?_,⟨⟩⟩,⟨go ?_,⟨⟩⟩⟩ eF
 refine mP (bp q3) ⟨go ?_,⟨⟩⟩
 refine mP (sum_Seal_walk q4) ⟨go ?_,⟨⟩⟩
 exact mP (disk_Append_walk q5) ⟨cA,⟨⟩⟩
 refine mP (bp q3) ⟨⟨go ?_,⟨⟩⟩,⟨go ?_,⟨⟩⟩⟩
 refine mP (sum_Seal_walk q4) ⟨go ?_,⟨⟩⟩
 exact mP (disk_Append_walk q5) ⟨cA,⟨⟩⟩
 refine mP (sum_Seal_walk q4) ⟨⟨go ?_,⟨⟩⟩,⟨⟩⟩
 exact mP (disk_Append_walk q5) ⟨cA,⟨⟩⟩
def kv_fails (e:Int):Option ((Unit)⊕(Int)⊕(Int)):=
 if (decide (e=0)) then some (.inl ()) else
 if (decide (e=6)) then some (.inr (.inl e)) else
 some (.inr (.inr e))
theorem kv_fails_walk {e r} (h:kv_fails e=some r):PureP Tryz.prog 75 [vI e] (fun a=>match r with|(.inl r)=>a= .v .nilIface|(.inr (.inl r))=>a= .ifc 224 (.agg [vI r,.ifc 222 (.agg [])])|(.inr (.inr r))=>a= .ifc 224 (.agg [vI r,.v .nilIface])):=by
 unfold kv_fails at h
 refine pW0 Tryz.func75 rfl fun g=>go ?_
 refine cC h rfl (fun c1 h=>eF) fun c1 h=>go ?_
 exact cC h rfl (fun c2 h=>eF) fun c2 h=>eF
def kv_told (x:Store) (x1:Int):Option (Store×Int):=
 some ((⟨x.D,x.From,x.Seg,x.Run,x.S,true⟩:Store),x1)
theorem kv_told_walk {x x1 r} (h:kv_told x x1=some r):pP 76 [.agg (encStore x),.ifc 224 (.agg [vI x1,.ifc 222 (.agg [])])] (.tup [.agg (encStore r.1),vI r.2]):=by
 unfold kv_told at h
 refine pW (G:=⟨tys,[127],[],[]⟩) ct mixed Tryz.func76 rfl fun g=>go ?_
 refine mC (as_4 x1 (vI 0) (.v .nilIface)) [2] (go ?_)
 refine dz.condF rfl (gN 1 ?_)
 refine k0 ⟨24,0,ab [(2,.ptr 0 0),(4,.ptr 1 0),(6,.ptr 2 0)],[.var 31 [sL ar x.D.Files,vI x.D.Room,vI x.D.Fuse,vB x.D.Off,vI x.From,vI x.Seg,vI x.Run,sL ac x.S.Data,sL ac x.S.Toks,vB true],.var 31 [vN,vI 0,vI 0,vB false,vI 0,vI 0,vI 0,vN,vN,vB false],.var 224 [vI x1,.ifc 222 (.agg [])]]⟩ (go ?_) (go ?_)
 refine cK (x.Down) (fun i1=>cZ) fun i1=>go ?_
 exact mP (is_5 x1) cZ
 exact cp.one 4 (.k [0,1,2] (.o 3 .fin)) [1,3,4,5,6,7,8] (by kernel_rfl) ⟨eF,⟨⟩⟩
def kv_told_2 (x:Store) (x1:Int):Option (Store×Int):=
 some (x,x1)
theorem kv_told_2_walk {x x1 r} (h:kv_told_2 x x1=some r):pP 76 [.agg (encStore x),.ifc 224 (.agg [vI x1,.v .nilIface])] (.tup [.agg (encStore r.1),vI r.2]):=by
 unfold kv_told_2 at h
 refine pW (G:=⟨tys,[127],[],[]⟩) ct mixed Tryz.func76 rfl fun g=>go ?_
 refine mC (as_6 x1 (vI 0) (.v .nilIface)) [2] (go ?_)
 refine dz.condF rfl (gN 1 ?_)
 refine k0 ⟨24,0,ab [(2,.ptr 0 0),(4,.ptr 1 0),(6,.ptr 2 0)],[.var 31 (encStore x),.var 31 [vN,vI 0,vI 0,vB false,vI 0,vI 0,vI 0,vN,vN,vB false],.var 224 [vI x1,.v .nilIface]]⟩ (go ?_) (go ?_)
 refine cK (x.Down) (fun i1=>go ?_) fun i1=>go ?_
 exact ⟨rfl,(wF (.cons (.var (.cons (.same rfl) (.cons (.same rfl) (.cons (.same rfl) (.cons (.same rfl) (.cons (.same rfl) (.cons (.same rfl) (.cons (.same rfl) (.cons (.same rfl) (.cons (.same rfl) (.cons (.same (show (vB true:AV)=(vB x.Down:AV) from by first|(simp [i1];done)|(simp only [i1,Bool.or_true,Bool.true_or,Bool.false_or,Bool.or_false,Bool.and_true,Bool.true_and,Bool.and_false,Bool.false_and,Bool.not_true,Bool.not_false,if_true,if_false,Bool.false_eq_true];done)|(exfalso;revert i1;simp+contextual;done))) (.nil)))))))))))) .rest) (.all rfl))⟩
 refine mP (is_7 x1) (go ?_)
 exact ⟨rfl,(wF (.cons (.var (.cons (.same rfl) (.cons (.same rfl) (.cons (.same rfl) (.cons (.same rfl) (.cons (.same rfl) (.cons (.same rfl) (.cons (.same rfl) (.cons (.same rfl) (.cons (.same rfl) (.cons (.same (show (vB false:AV)=(vB x.Down:AV) from by first|(simp [i1];done)|(simp only [i1,Bool.or_true,Bool.true_or,Bool.false_or,Bool.or_false,Bool.and_true,Bool.true_and,Bool.and_false,Bool.false_and,Bool.not_true,Bool.not_false,if_true,if_false,Bool.false_eq_true];done)|(exfalso;revert i1;simp+contextual;done))) (.nil)))))))))))) .rest) (.all rfl))⟩
 exact cp.one 4 (.k [0,1,2] (.o 3 .fin)) [1,3,4,5,6,7,8] (by kernel_rfl) ⟨eF,⟨⟩⟩
def wal_Sync (d:Disk) (seg:Int):Option (Disk×Int):=
 (wal_Name seg).bind fun y1=>
 (disk_Find d y1).bind fun y2=>
 if (!y2.2) then some (d,0) else
 (disk_Sync d y1).bind fun y3=>
 some (y3.1,y3.2)
theorem wal_Sync_walk {d seg r} (h:wal_Sync d seg=some r):pP 77 [.agg (aG d),vI seg] (.tup [.agg (aG r.1),vI r.2]):=by
 unfold wal_Sync at h
 refine pW0 Tryz.func77 rfl fun g=>go ?_
 obtain ⟨y1,q1,h⟩:=bind_some h
 obtain ⟨y2,q2,h⟩:=bind_some h
 refine cp.many 9 (.k [0,1] (.alt 2 (.alt 3 (.k [4,5,6] (.o 7 (.o 8 .fin))) (.o 7 (.o 3 (.k [4,5,6] (.o 8 .fin))))) (.o 7 (.o 2 (.o 3 (.k [4,5,6] (.o 8 .fin))))))) [2,3,4,5,6,7] (⟨24,0,ab [(1,vI seg),(2,.ptr 0 0),(4,.ptr 1 0),(14,vB y2.2)],[.var 26 (aG d),.var 26 [vN,vI 0,vI 0,vB false]]⟩) (by kernel_rfl) ⟨go ?_,⟨⟨go ?_,⟨⟩⟩,⟨⟩⟩⟩ (go ?_)
 refine mP (bp q1) ⟨go ?_,⟨⟨go ?_,⟨⟩⟩,⟨⟩⟩⟩
 exact mP (cg q2) ⟨⟨cA,⟨⟩⟩,⟨⟩⟩
 exact mP (cg q2) ⟨cA,⟨⟩⟩
 refine mP (bp q1) ⟨go ?_,⟨⟩⟩
 exact mP (cg q2) ⟨cA,⟨⟩⟩
 refine cC h rfl (fun c1 h=>eF) fun c1 h=>go ?_
 refine cp.one 6 (.k [0,1] (.o 2 (.o 3 (.k [4,5] .fin)))) [] (by kernel_rfl) ⟨go ?_,⟨⟩⟩
 refine mP (bp q1) ⟨go ?_,⟨⟩⟩
 exact cP h disk_Sync_walk fun y3 h=>eF
def kv_Commit (x:Store) (b:Batch):Option (Store×Int):=
 (batch_Bytes b).bind fun y1=>
 if x.Down then some (x,6) else
 if (!(decide (y1.2=0))) then some (x,y1.2) else
 (batch_Decided x.S b.Token).bind fun y2=>
 if y2.2 then some (x,8) else
 (wal_Put x.D x.Seg y1.1).bind fun y3=>
 (kv_fails y3.2.2).bind fun y4=>
 match y4 with
 |(.inl y5)=>
  (wal_Sync y3.1 y3.2.1).bind fun y6=>
  (kv_fails y6.2).bind fun y7=>
  match y7 with
  |(.inl y8)=>
   (batch_Do x.S b).bind fun y9=>
   some ((⟨y6.1,x.From,y3.2.1,x.Run,y9.1,x.Down⟩:Store),0)
  |(.inr (.inl y11))=>
   (kv_told (⟨y6.1,x.From,y3.2.1,x.Run,x.S,x.Down⟩:Store) y11).bind fun y12=>
   some (y12.1,y12.2)
  |(.inr (.inr y14))=>
  (kv_told_2 (⟨y6.1,x.From,y3.2.1,x.Run,x.S,x.Down⟩:Store) y14).bind fun y15=>
  some (y15.1,y15.2)
 |(.inr (.inl y16))=>
  (kv_told (⟨y3.1,x.From,y3.2.1,x.Run,x.S,x.Down⟩:Store) y16).bind fun y17=>
  some (y17.1,y17.2)
 |(.inr (.inr y18))=>
 (kv_told_2 (⟨y3.1,x.From,y3.2.1,x.Run,x.S,x.Down⟩:Store) y18).bind fun y19=>
 some (y19.1,y19.2)
theorem kv_Commit_walk {x b r} (h:kv_Commit x b=some r):pP 51 [.agg (encStore x),.agg (encBatch b)] (.tup [.agg (encStore r.1),vI r.2]):=by
 unfold kv_Commit at h
 refine pW0 Tryz.func51 rfl fun g=>go ?_
 refine cP h batch_Bytes_walk fun y1 h=>go ?_
 refine cC h rfl (fun c1 h=>eF) fun c1 h=>go ?_
 refine cC h rfl (fun c2 h=>eF) fun c2 h=>go ?_
 refine cP h batch_Decided_walk fun y2 h=>go ?_
 refine cC h rfl (fun c3 h=>eF) fun c3 h=>go ?_
 refine cP h wal_Put_walk fun y3 h=>go ?_
 obtain ⟨y4,q1,h⟩:=bind_some h
 refine PureP.mono (kv_fails_walk q1) ?_
 rcases y4 with y5|y6|y7
 dsimp only at h
 rintro _ rfl
 refine go ?_
 refine dz.condF rfl (go ?_)
 refine cP h wal_Sync_walk fun y8 h=>go ?_
 obtain ⟨y9,q2,h⟩:=bind_some h
 refine PureP.mono (kv_fails_walk q2) ?_
 rcases y9 with y11|y12|y14
 dsimp only at h
 rintro _ rfl
 refine go ?_
 refine dz.condF rfl (go ?_)
 exact cP h batch_Do_walk fun y15 h=>eF
 dsimp only at h
 rintro _ rfl
 refine go ?_
 refine dz.condT rfl (go ?_)
 exact cP h kv_told_walk fun y16 h=>eF
 dsimp only at h
 rintro _ rfl
 refine go ?_
 refine dz.condT rfl (go ?_)
 exact cP h kv_told_2_walk fun y17 h=>eF
 dsimp only at h
 rintro _ rfl
 refine go ?_
 refine dz.condT rfl (go ?_)
 exact cP h kv_told_walk fun y18 h=>eF
 dsimp only at h
 rintro _ rfl
 refine go ?_
 refine dz.condT rfl (go ?_)
 exact cP h kv_told_2_walk fun y19 h=>eF
def engine_work_commit (v:Engine) (l:(List Done)) (t:Txn) (b:Batch):Option (Int×Engine):=
 (kv_Commit v.X (⟨b.Kind,t.Token,b.Writes⟩:Batch)).bind fun y1=>
 some (y1.2,(⟨y1.1,v.L,v.T,v.Next,v.Now⟩:Engine))
theorem engine_work_commit_walk {v l t b r} (h:engine_work_commit v l t b=some r):pH 30 [.var 96 (ag v++[.row 1 ((List.map ak l).length)]),.row 63 6 (List.map ak l)] [.ptr 0 0,.agg (aB t),.agg (encBatch b)] (vI r.1) [.var 96 (ag r.2++[.row 1 ((List.map ak l).length)]),.row 63 6 (List.map ak l)]:=by
 unfold engine_work_commit at h
 refine pC0 Tryz.func30 rfl fun g=>go ?_
 obtain ⟨y1,q1,h⟩:=bind_some h
 refine cp.many 12 (.k [0,1,2,3,4,5] (.alt 6 (.k [7,8,9] (.o 10 (.o 11 .fin))) (.o 10 (.o 6 (.k [7,8,9] (.o 11 .fin)))))) [4,5,6,7,8,9] (⟨28,2,ab [(0,.ptr 0 0),(7,.ptr 4 0),(21,vI y1.2)],[.var 96 (ag v++[.row 1 ((List.map ak l).length)]),.row 63 6 (List.map ak l),.var 46 (aB t),.var 100 [vI b.Kind,vS t.Token,sL am b.Writes],.var 31 (encStore y1.1)]⟩) (by kernel_rfl) ⟨go ?_,⟨⟨go ?_,⟨⟩⟩,⟨⟩⟩⟩ (go ?_)
 exact mP (kv_Commit_walk q1) ⟨⟨cA,⟨⟩⟩,⟨⟩⟩
 exact mP (kv_Commit_walk q1) ⟨cA,⟨⟩⟩
 exact eP ⟨28,2,ab [(6,vI y1.2)],[.var 96 (ag (⟨y1.1,v.L,v.T,v.Next,v.Now⟩:Engine)++[.row 1 ((List.map ak l).length)]),.row 63 6 (List.map ak l)]⟩ wA
def engine_work_goes_1 (t:Txn) (v:Int):Option (Bool):=
 some (decide (t.Id=v))
theorem engine_work_goes_1_walk {t v r} (h:engine_work_goes_1 t v=some r):pH 71 [.var 3 [vI v]] [.agg (aB t),.ptr 0 0] (vB r) [.var 3 [vI v]]:=by
 unfold engine_work_goes_1 at h
 refine pC0 Tryz.func71 rfl fun g=>go ?_
 exact eP ⟨8,1,ab [(3,vB (decide (t.Id=v)))],[.var 3 [vI v]]⟩ wA
def aJ (l:(List Txn)) (v a1:Int):Option ((Int)⊕((Int)⊕(Unit))):=
 if (decide (a1<(l.length:Int))) then
 (ix l a1).bind fun x1=>
 (engine_work_goes_1 x1 v).bind fun y1=>
 if y1 then some (.inr (.inl a1)) else
 some (.inl (IntKind.i64.wrap (a1+1)))
 else
 some (.inr (.inr ()))
def bY (l:(List Txn)) (v:Int):Option (Int):=
 (loop (fun (s1:Int)=>aJ l v s1) (0:Int)).bind fun (y1:(Int)⊕(Unit))=>
 match y1 with
 |(.inl v1)=>
  some v1
 |(.inr v2)=>
 some (-1)
theorem slices_IndexFunc_Txn__engine_work_goes_1_walk {l v r} (h:bY l v=some r):pH 46 [.row 46 10 (List.map aB l),.var 3 [vI v]] [.row 0 ((List.map aB l).length),.fn (.func 71) [] [.ptr 1 0]] (vI r) [.row 46 10 (List.map aB l),.var 3 [vI v]]:=by
 unfold bY at h
 refine pC (G:=⟨tys,[71],[],[]⟩) ct mixed Tryz.func46 rfl fun g=>go ?_
 refine ⟨rfl,(l.length:Int),by simp,go ?_⟩
 refine lQ h (fun s1=>⟨19,2,ab [(0,.row 0 ((List.map aB l).length)),(1,.fn (.func 71) [] [.ptr 1 0]),(7,vI (l.length:Int)),(8,vI s1)],[.row 46 10 (List.map aB l),.var 3 [vI v]]⟩) (Sum.elim (aO .ret (fun v1=>⟨19,2,ab [(4,vI v1)],[.row 46 10 (List.map aB l),.var 3 [vI v]]⟩)) (aO (.exit 0) (fun _=>⟨19,2,ab [],[.row 46 10 (List.map aB l),.var 3 [vI v]]⟩))) wA ?_ <|bE (bO fun v1 _ h w=>go ?_)<|bO fun v2 _ h w=>wk w (go ?_)
 rintro y1 a1 v3 h r
 replace h:aJ l v a1=some v3:=h
 unfold aJ at h
 refine go ?_
 refine cC h rfl (fun c1 h=>go ?_) fun c1 h=>xE
 obtain ⟨x1,q1,h⟩:=bind_some h
 refine ⟨⟨rfl,(bX q1).1,by have:=bX q1;simp only [List.length_map,List.length_set,List.length_cons,List.length_nil] at*;omega⟩,?_⟩
 refine ⟨rfl,_,al aB (af q1).2,go ?_⟩
 refine cU h engine_work_goes_1_walk [1] fun y2 h=>go ?_
 exact cC h rfl (fun c2 h=>xE) fun c2 h=>cN
 exact eP ⟨19,2,ab [(4,vI v1)],[.row 46 10 (List.map aB l),.var 3 [vI v]]⟩ (bl.trans w wA)
 exact eP ⟨19,2,ab [(4,vI (-1))],[.row 46 10 (List.map aB l),.var 3 [vI v]]⟩ wA
def aI (v a1 a2:Int) (a3:(List Txn)):Option ((Int×Int×(List Txn))⊕(Int×(List Txn))):=
 if (decide (a2<(a3.length:Int))) then
 ((ix a3 a2).bind fun x1=>
 (engine_work_goes_1 x1 v).bind fun y1=>
 if (!y1) then
 (ix a3 a1).bind fun x2=>
 some ((IntKind.i64.wrap (a1+1)),(List.set a3 (a1).toNat x1))
 else
 some (a1,a3)).bind fun (y2:Int×(List Txn))=>
 some (.inl (y2.1,(IntKind.i64.wrap (a2+1)),y2.2))
 else
 some (.inr (a1,a3))
def aM (l:(List Txn)) (v:Int):Option ((List Txn)):=
 (bY l v).bind fun y1=>
 if (decide (y1=(-1))) then some l else
 (loop (fun (s1:Int×Int×(List Txn))=>aI v s1.1 s1.2.1 s1.2.2) (y1,(IntKind.i64.wrap (y1+1)),l)).bind fun (y2:Int×(List Txn))=>
 aL (0<y2.2.length)<|
 aL ((0:Int)≤y2.1∧y2.1≤(y2.2.length:Int)∧(y2.2.length:Int)≤(y2.2.length:Int))<|
 aL (0<(List.take ((y2.1).toNat) y2.2++List.replicate (((((List.map aB y2.2).length:Nat):Int).toNat) - ((y2.1).toNat)) ((⟨0,[],[],false,(⟨0,[],[],[],[],0⟩:Op_)⟩:Txn):Txn)++List.drop ((((List.map aB y2.2).length:Nat):Int).toNat) y2.2).length)<|
 aL ((0:Int)≤(0:Int)∧0≤y2.1∧y2.1≤((List.take ((y2.1).toNat) y2.2++List.replicate (((((List.map aB y2.2).length:Nat):Int).toNat) - ((y2.1).toNat)) ((⟨0,[],[],false,(⟨0,[],[],[],[],0⟩:Op_)⟩:Txn):Txn)++List.drop ((((List.map aB y2.2).length:Nat):Int).toNat) y2.2).length:Int))<|
 some (List.drop ((0:Int).toNat) (List.take ((y2.1).toNat) (List.take ((y2.1).toNat) y2.2++List.replicate (((((List.map aB y2.2).length:Nat):Int).toNat) - ((y2.1).toNat)) ((⟨0,[],[],false,(⟨0,[],[],[],[],0⟩:Op_)⟩:Txn):Txn)++List.drop ((((List.map aB y2.2).length:Nat):Int).toNat) y2.2)))
theorem slices_DeleteFunc_Txn__engine_work_goes_1_walk {l v r} (h:aM l v=some r):pH 70 [.row 46 10 (List.map aB l),.var 3 [vI v]] [.row 0 ((List.map aB l).length),.fn (.func 71) [] [.ptr 1 0]] (sL aB r) [.gone,.var 3 [vI v]]:=by
 unfold aM at h
 refine pC (G:=⟨tys,[46,71],[],[]⟩) ct mixed Tryz.func70 rfl fun g=>go ?_
 refine cU h slices_IndexFunc_Txn__engine_work_goes_1_walk [0,1] fun y1 h=>go ?_
 refine cC h rfl (fun c1 h=>go ?_) fun c1 h=>go ?_
 exact eP ⟨42,2,ab [(4,sL aB l)],[.gone,.var 3 [vI v]]⟩ (bl.trans (aK 0 rfl) (wF (.g .rest) (.f (.all rfl))))
 refine lQ h (fun s1=>⟨42,2,ab [(0,.row 0 ((List.map aB s1.2.2).length)),(1,.fn (.func 71) [] [.ptr 1 0]),(5,vI s1.1),(6,vI s1.2.1)],[.row 46 10 (List.map aB s1.2.2),.var 3 [vI v]]⟩) (aO (.exit 0) (fun y2=>⟨42,2,ab [(0,.row 0 ((List.map aB y2.2).length)),(5,vI y2.1)],[.row 46 10 (List.map aB y2.2),.var 3 [vI v]]⟩)) wA ?_ <|bO fun y2 _ h w=>wk w (go ?_)
 rintro y2 ⟨a1,a2,a3⟩ v1 h r
 replace h:aI v a1 a2 a3=some v1:=h
 unfold aI at h
 dsimp only
 refine go ?_
 refine ⟨rfl,(a3.length:Int),by simp,go ?_⟩
 refine cC h rfl (fun c2 h=>gN 1 ?_) fun c2 h=>xE
 refine k1 h (fun y3=>⟨42,2,ab [(0,.row 0 ((List.map aB y3.2).length)),(1,.fn (.func 71) [] [.ptr 1 0]),(5,vI y3.1),(6,vI a2)],[.row 46 10 (List.map aB y3.2),.var 3 [vI v]]⟩) (fun y3 h=>go ?_) fun y3 h=>cN
 obtain ⟨x1,q1,h⟩:=bind_some h
 refine ⟨⟨rfl,(bX q1).1,by have:=bX q1;simp only [List.length_map,List.length_set,List.length_cons,List.length_nil] at*;omega⟩,?_⟩
 refine ⟨rfl,_,al aB (af q1).2,go ?_⟩
 refine cU h engine_work_goes_1_walk [1] fun y4 h=>go ?_
 refine cC h rfl (fun c3 h=>go ?_) fun c3 h=>cE
 obtain ⟨x2,q2,h⟩:=bind_some h
 refine ⟨⟨rfl,(bX q2).1,by have:=bX q2;simp only [List.length_map,List.length_set,List.length_cons,List.length_nil] at*;omega⟩,?_⟩
 refine ⟨rfl,_,al aB (af q2).2,Nat.le_of_ble_eq_true rfl,List.map aB (List.set a3 (a1).toNat x1),map_set aB _ _ _ rfl,go ?_⟩
 cases h
 exact ⟨rfl,wI⟩
 obtain ⟨p1,h⟩:=au h
 refine ⟨⟨rfl,by have:=p1;simp only [List.length_map,List.length_append,List.length_take,List.length_drop,List.length_replicate,List.length_set] at*;omega⟩,?_⟩
 refine go ?_
 refine nD h fun p2 h=>⟨by have:=p2;simp only [List.length_map,List.length_append,List.length_take,List.length_drop,List.length_replicate,List.length_set] at*;omega,rfl,List.map aB (List.take ((y2.1).toNat) y2.2++List.replicate (((((List.map aB y2.2).length:Nat):Int).toNat) - ((y2.1).toNat)) ((⟨0,[],[],false,(⟨0,[],[],[],[],0⟩:Op_)⟩:Txn):Txn)++List.drop ((((List.map aB y2.2).length:Nat):Int).toNat) y2.2),by rw [List.map_append,List.map_append,List.map_take,List.map_drop,List.map_replicate];rfl,go ?_⟩
 obtain ⟨p3,h⟩:=au h
 refine ⟨⟨by first|(simp;done)|(simp only [List.length_map,List.length_append,List.length_take,List.length_drop,List.length_replicate,List.length_set,List.length_mergeSort];omega),by have:=p3;simp only [List.length_map,List.length_append,List.length_take,List.length_drop,List.length_replicate,List.length_set] at*;omega⟩,?_⟩
 refine go ?_
 refine nD h fun p4 h=>⟨by have:=p4;simp only [List.length_map,List.length_append,List.length_take,List.length_drop,List.length_replicate,List.length_set] at*;omega,go ?_⟩
 exact eP ⟨42,2,ab [(4,sL aB (List.drop ((0:Int).toNat) (List.take ((y2.1).toNat) (List.take ((y2.1).toNat) y2.2++List.replicate (((((List.map aB y2.2).length:Nat):Int).toNat) - ((y2.1).toNat)) ((⟨0,[],[],false,(⟨0,[],[],[],[],0⟩:Op_)⟩:Txn):Txn)++List.drop ((((List.map aB y2.2).length:Nat):Int).toNat) y2.2))))],[.gone,.var 3 [vI v]]⟩ (bl.trans (aK 0 rfl) (wF (.g .rest) (.cons (.one (.frzvw rfl (by first|(simp;done)|(simp only [List.length_map,List.length_append,List.length_take,List.length_drop,List.length_replicate,List.length_set,List.length_mergeSort];omega)) (by rw [List.map_drop,List.map_take]))) (.all rfl))))
def lock_Free_1 (h_:Hold) (v:Int):Option (Bool):=
 some (decide (h_.Txn=v))
theorem lock_Free_1_walk {h_ v r} (h:lock_Free_1 h_ v=some r):pH 116 [.var 3 [vI v]] [.agg (ay h_),.ptr 0 0] (vB r) [.var 3 [vI v]]:=by
 unfold lock_Free_1 at h
 refine pC0 Tryz.func116 rfl fun g=>go ?_
 exact eP ⟨8,1,ab [(3,vB (decide (h_.Txn=v)))],[.var 3 [vI v]]⟩ wA
def bd (l:(List Hold)) (v a1:Int):Option ((Int)⊕((Int)⊕(Unit))):=
 if (decide (a1<(l.length:Int))) then
 (ix l a1).bind fun x1=>
 (lock_Free_1 x1 v).bind fun y1=>
 if y1 then some (.inr (.inl a1)) else
 some (.inl (IntKind.i64.wrap (a1+1)))
 else
 some (.inr (.inr ()))
def cB (l:(List Hold)) (v:Int):Option (Int):=
 (loop (fun (s1:Int)=>bd l v s1) (0:Int)).bind fun (y1:(Int)⊕(Unit))=>
 match y1 with
 |(.inl v1)=>
  some v1
 |(.inr v2)=>
 some (-1)
theorem slices_IndexFunc_Hold__lock_Free_1_walk {l v r} (h:cB l v=some r):pH 130 [.row 52 4 (List.map ay l),.var 3 [vI v]] [.row 0 ((List.map ay l).length),.fn (.func 116) [] [.ptr 1 0]] (vI r) [.row 52 4 (List.map ay l),.var 3 [vI v]]:=by
 unfold cB at h
 refine pC (G:=⟨tys,[116],[],[]⟩) ct mixed Tryz.func130 rfl fun g=>go ?_
 refine ⟨rfl,(l.length:Int),by simp,go ?_⟩
 refine lQ h (fun s1=>⟨19,2,ab [(0,.row 0 ((List.map ay l).length)),(1,.fn (.func 116) [] [.ptr 1 0]),(7,vI (l.length:Int)),(8,vI s1)],[.row 52 4 (List.map ay l),.var 3 [vI v]]⟩) (Sum.elim (aO .ret (fun v1=>⟨19,2,ab [(4,vI v1)],[.row 52 4 (List.map ay l),.var 3 [vI v]]⟩)) (aO (.exit 0) (fun _=>⟨19,2,ab [],[.row 52 4 (List.map ay l),.var 3 [vI v]]⟩))) wA ?_ <|bE (bO fun v1 _ h w=>go ?_)<|bO fun v2 _ h w=>wk w (go ?_)
 rintro y1 a1 v3 h r
 replace h:bd l v a1=some v3:=h
 unfold bd at h
 refine go ?_
 refine cC h rfl (fun c1 h=>go ?_) fun c1 h=>xE
 obtain ⟨x1,q1,h⟩:=bind_some h
 refine ⟨⟨rfl,(bX q1).1,by have:=bX q1;simp only [List.length_map,List.length_set,List.length_cons,List.length_nil] at*;omega⟩,?_⟩
 refine ⟨rfl,_,al ay (af q1).2,go ?_⟩
 refine cU h lock_Free_1_walk [1] fun y2 h=>go ?_
 exact cC h rfl (fun c2 h=>xE) fun c2 h=>cN
 exact eP ⟨19,2,ab [(4,vI v1)],[.row 52 4 (List.map ay l),.var 3 [vI v]]⟩ (bl.trans w wA)
 exact eP ⟨19,2,ab [(4,vI (-1))],[.row 52 4 (List.map ay l),.var 3 [vI v]]⟩ wA
end
end Go.Ab
