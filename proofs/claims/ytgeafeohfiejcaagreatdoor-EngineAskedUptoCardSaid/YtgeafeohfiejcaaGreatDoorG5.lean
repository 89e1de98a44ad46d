/- The program's functions as plain Lean functions, and that the program comes to what they come to. Printed by a program of this session. and what follows it, up to: Searches, rows that are the same; waits, asks: program and document alike (plain). -/
import Derived.Test.YtgeafeohfiejcaaGreatDoorG4
namespace Go.Ab
open Go.Proofs
set_option linter.unusedVariables false
set_option linter.unusedSimpArgs false
set_option maxRecDepth 100000
set_option maxHeartbeats 4000000
noncomputable section
def aZ (v a1 a2:Int) (a3:(List Hold)):Option ((Int×Int×(List Hold))⊕(Int×(List Hold))):=
 if (decide (a2<(a3.length:Int))) then
 ((ix a3 a2).bind fun x1=>
 (lock_Free_1 x1 v).bind fun y1=>
 if (!y1) then
 (ix a3 a1).bind fun x2=>
 some ((IntKind.i64.wrap (a1+1)),(List.set a3 (a1).toNat x1))
 else
 some (a1,a3)).bind fun (y2:Int×(List Hold))=>
 some (.inl (y2.1,(IntKind.i64.wrap (a2+1)),y2.2))
 else
 some (.inr (a1,a3))
def bQ (l:(List Hold)) (v:Int):Option ((List Hold)):=
 (cB l v).bind fun y1=>
 if (decide (y1=(-1))) then some l else
 (loop (fun (s1:Int×Int×(List Hold))=>aZ v s1.1 s1.2.1 s1.2.2) (y1,(IntKind.i64.wrap (y1+1)),l)).bind fun (y2:Int×(List Hold))=>
 aL (0<y2.2.length)<|
 aL ((0:Int)≤y2.1∧y2.1≤(y2.2.length:Int)∧(y2.2.length:Int)≤(y2.2.length:Int))<|
 aL (0<(List.take ((y2.1).toNat) y2.2++List.replicate (((((List.map ay y2.2).length:Nat):Int).toNat) - ((y2.1).toNat)) ((⟨0,(⟨0,[],[]⟩:Want)⟩:Hold):Hold)++List.drop ((((List.map ay y2.2).length:Nat):Int).toNat) y2.2).length)<|
 aL ((0:Int)≤(0:Int)∧0≤y2.1∧y2.1≤((List.take ((y2.1).toNat) y2.2++List.replicate (((((List.map ay y2.2).length:Nat):Int).toNat) - ((y2.1).toNat)) ((⟨0,(⟨0,[],[]⟩:Want)⟩:Hold):Hold)++List.drop ((((List.map ay y2.2).length:Nat):Int).toNat) y2.2).length:Int))<|
 some (List.drop ((0:Int).toNat) (List.take ((y2.1).toNat) (List.take ((y2.1).toNat) y2.2++List.replicate (((((List.map ay y2.2).length:Nat):Int).toNat) - ((y2.1).toNat)) ((⟨0,(⟨0,[],[]⟩:Want)⟩:Hold):Hold)++List.drop ((((List.map ay y2.2).length:Nat):Int).toNat) y2.2)))
theorem slices_DeleteFunc_Hold__lock_Free_1_walk {l v r} (h:bQ l v=some r):pH 115 [.row 52 4 (List.map ay l),.var 3 [vI v]] [.row 0 ((List.map ay l).length),.fn (.func 116) [] [.ptr 1 0]] (sL ay r) [.gone,.var 3 [vI v]]:=by
 unfold bQ at h
 refine pC (G:=⟨tys,[116,130],[],[]⟩) ct mixed Tryz.func115 rfl fun g=>go ?_
 refine cU h slices_IndexFunc_Hold__lock_Free_1_walk [0,1] fun y1 h=>go ?_
 refine cC h rfl (fun c1 h=>go ?_) fun c1 h=>go ?_
 exact eP ⟨42,2,ab [(4,sL ay l)],[.gone,.var 3 [vI v]]⟩ (bl.trans (aK 0 rfl) (wF (.g .rest) (.f (.all rfl))))
 refine lQ h (fun s1=>⟨42,2,ab [(0,.row 0 ((List.map ay s1.2.2).length)),(1,.fn (.func 116) [] [.ptr 1 0]),(5,vI s1.1),(6,vI s1.2.1)],[.row 52 4 (List.map ay s1.2.2),.var 3 [vI v]]⟩) (aO (.exit 0) (fun y2=>⟨42,2,ab [(0,.row 0 ((List.map ay y2.2).length)),(5,vI y2.1)],[.row 52 4 (List.map ay y2.2),.var 3 [vI v]]⟩)) wA ?_ <|bO fun y2 _ h w=>wk w (go ?_)
 rintro y2 ⟨a1,a2,a3⟩ v1 h r
 replace h:aZ v a1 a2 a3=some v1:=h
 unfold aZ at h
 dsimp only
 refine go ?_
 refine ⟨rfl,(a3.length:Int),by simp,go ?_⟩
 refine cC h rfl (fun c2 h=>gN 1 ?_) fun c2 h=>xE
 refine k1 h (fun y3=>⟨42,2,ab [(0,.row 0 ((List.map ay y3.2).length)),(1,.fn (.func 116) [] [.ptr 1 0]),(5,vI y3.1),(6,vI a2)],[.row 52 4 (List.map ay y3.2),.var 3 [vI v]]⟩) (fun y3 h=>go ?_) fun y3 h=>cN
 obtain ⟨x1,q1,h⟩:=bind_some h
 refine ⟨⟨rfl,(bX q1).1,by have:=bX q1;simp only [List.length_map,List.length_set,List.length_cons,List.length_nil] at*;omega⟩,?_⟩
 refine ⟨rfl,_,al ay (af q1).2,go ?_⟩
 refine cU h lock_Free_1_walk [1] fun y4 h=>go ?_
 refine cC h rfl (fun c3 h=>go ?_) fun c3 h=>cE
 obtain ⟨x2,q2,h⟩:=bind_some h
 refine ⟨⟨rfl,(bX q2).1,by have:=bX q2;simp only [List.length_map,List.length_set,List.length_cons,List.length_nil] at*;omega⟩,?_⟩
 refine ⟨rfl,_,al ay (af q2).2,Nat.le_of_ble_eq_true rfl,List.map ay (List.set a3 (a1).toNat x1),map_set ay _ _ _ rfl,go ?_⟩
 cases h
 exact ⟨rfl,wI⟩
 obtain ⟨p1,h⟩:=au h
 refine ⟨⟨rfl,by have:=p1;simp only [List.length_map,List.length_append,List.length_take,List.length_drop,List.length_replicate,List.length_set] at*;omega⟩,?_⟩
 refine go ?_
 refine nD h fun p2 h=>⟨by have:=p2;simp only [List.length_map,List.length_append,List.length_take,List.length_drop,List.length_replicate,List.length_set] at*;omega,rfl,List.map ay (List.take ((y2.1).toNat) y2.2++List.replicate (((((List.map ay y2.2).length:Nat):Int).toNat) - ((y2.1).toNat)) ((⟨0,(⟨0,[],[]⟩:Want)⟩:Hold):Hold)++List.drop ((((List.map ay y2.2).length:Nat):Int).toNat) y2.2),by rw [List.map_append,List.map_append,List.map_take,List.map_drop,List.map_replicate];rfl,go ?_⟩
 obtain ⟨p3,h⟩:=au h
 refine ⟨⟨by first|(simp;done)|(simp only [List.length_map,List.length_append,List.length_take,List.length_drop,List.length_replicate,List.length_set,List.length_mergeSort];omega),by have:=p3;simp only [List.length_map,List.length_append,List.length_take,List.length_drop,List.length_replicate,List.length_set] at*;omega⟩,?_⟩
 refine go ?_
 refine nD h fun p4 h=>⟨by have:=p4;simp only [List.length_map,List.length_append,List.length_take,List.length_drop,List.length_replicate,List.length_set] at*;omega,go ?_⟩
 exact eP ⟨42,2,ab [(4,sL ay (List.drop ((0:Int).toNat) (List.take ((y2.1).toNat) (List.take ((y2.1).toNat) y2.2++List.replicate (((((List.map ay y2.2).length:Nat):Int).toNat) - ((y2.1).toNat)) ((⟨0,(⟨0,[],[]⟩:Want)⟩:Hold):Hold)++List.drop ((((List.map ay y2.2).length:Nat):Int).toNat) y2.2))))],[.gone,.var 3 [vI v]]⟩ (bl.trans (aK 0 rfl) (wF (.g .rest) (.cons (.one (.frzvw rfl (by first|(simp;done)|(simp only [List.length_map,List.length_append,List.length_take,List.length_drop,List.length_replicate,List.length_set,List.length_mergeSort];omega)) (by rw [List.map_drop,List.map_take]))) (.all rfl))))
def lock_Free_2 (c:Claim) (v:Int):Option (Bool):=
 some (decide (c.Txn=v))
theorem lock_Free_2_walk {c v r} (h:lock_Free_2 c v=some r):pH 118 [.var 3 [vI v]] [.agg (an c),.ptr 0 0] (vB r) [.var 3 [vI v]]:=by
 unfold lock_Free_2 at h
 refine pC0 Tryz.func118 rfl fun g=>go ?_
 exact eP ⟨8,1,ab [(3,vB (decide (c.Txn=v)))],[.var 3 [vI v]]⟩ wA
def aY (l:(List Claim)) (v a1:Int):Option ((Int)⊕((Int)⊕(Unit))):=
 if (decide (a1<(l.length:Int))) then
 (ix l a1).bind fun x1=>
 (lock_Free_2 x1 v).bind fun y1=>
 if y1 then some (.inr (.inl a1)) else
 some (.inl (IntKind.i64.wrap (a1+1)))
 else
 some (.inr (.inr ()))
def cx (l:(List Claim)) (v:Int):Option (Int):=
 (loop (fun (s1:Int)=>aY l v s1) (0:Int)).bind fun (y1:(Int)⊕(Unit))=>
 match y1 with
 |(.inl v1)=>
  some v1
 |(.inr v2)=>
 some (-1)
theorem slices_IndexFunc_Claim__lock_Free_2_walk {l v r} (h:cx l v=some r):pH 92 [.row 91 5 (List.map an l),.var 3 [vI v]] [.row 0 ((List.map an l).length),.fn (.func 118) [] [.ptr 1 0]] (vI r) [.row 91 5 (List.map an l),.var 3 [vI v]]:=by
 unfold cx at h
 refine pC (G:=⟨tys,[118],[],[]⟩) ct mixed Tryz.func92 rfl fun g=>go ?_
 refine ⟨rfl,(l.length:Int),by simp,go ?_⟩
 refine lQ h (fun s1=>⟨19,2,ab [(0,.row 0 ((List.map an l).length)),(1,.fn (.func 118) [] [.ptr 1 0]),(7,vI (l.length:Int)),(8,vI s1)],[.row 91 5 (List.map an l),.var 3 [vI v]]⟩) (Sum.elim (aO .ret (fun v1=>⟨19,2,ab [(4,vI v1)],[.row 91 5 (List.map an l),.var 3 [vI v]]⟩)) (aO (.exit 0) (fun _=>⟨19,2,ab [],[.row 91 5 (List.map an l),.var 3 [vI v]]⟩))) wA ?_ <|bE (bO fun v1 _ h w=>go ?_)<|bO fun v2 _ h w=>wk w (go ?_)
 rintro y1 a1 v3 h r
 replace h:aY l v a1=some v3:=h
 unfold aY at h
 refine go ?_
 refine cC h rfl (fun c1 h=>go ?_) fun c1 h=>xE
 obtain ⟨x1,q1,h⟩:=bind_some h
 refine ⟨⟨rfl,(bX q1).1,by have:=bX q1;simp only [List.length_map,List.length_set,List.length_cons,List.length_nil] at*;omega⟩,?_⟩
 refine ⟨rfl,_,al an (af q1).2,go ?_⟩
 refine cU h lock_Free_2_walk [1] fun y2 h=>go ?_
 exact cC h rfl (fun c2 h=>xE) fun c2 h=>cN
 exact eP ⟨19,2,ab [(4,vI v1)],[.row 91 5 (List.map an l),.var 3 [vI v]]⟩ (bl.trans w wA)
 exact eP ⟨19,2,ab [(4,vI (-1))],[.row 91 5 (List.map an l),.var 3 [vI v]]⟩ wA
def aV (v a1 a2:Int) (a3:(List Claim)):Option ((Int×Int×(List Claim))⊕(Int×(List Claim))):=
 if (decide (a2<(a3.length:Int))) then
 ((ix a3 a2).bind fun x1=>
 (lock_Free_2 x1 v).bind fun y1=>
 if (!y1) then
 (ix a3 a1).bind fun x2=>
 some ((IntKind.i64.wrap (a1+1)),(List.set a3 (a1).toNat x1))
 else
 some (a1,a3)).bind fun (y2:Int×(List Claim))=>
 some (.inl (y2.1,(IntKind.i64.wrap (a2+1)),y2.2))
 else
 some (.inr (a1,a3))
def bC (l:(List Claim)) (v:Int):Option ((List Claim)):=
 (cx l v).bind fun y1=>
 if (decide (y1=(-1))) then some l else
 (loop (fun (s1:Int×Int×(List Claim))=>aV v s1.1 s1.2.1 s1.2.2) (y1,(IntKind.i64.wrap (y1+1)),l)).bind fun (y2:Int×(List Claim))=>
 aL (0<y2.2.length)<|
 aL ((0:Int)≤y2.1∧y2.1≤(y2.2.length:Int)∧(y2.2.length:Int)≤(y2.2.length:Int))<|
 aL (0<(List.take ((y2.1).toNat) y2.2++List.replicate (((((List.map an y2.2).length:Nat):Int).toNat) - ((y2.1).toNat)) ((⟨0,(⟨0,[],[]⟩:Want),0⟩:Claim):Claim)++List.drop ((((List.map an y2.2).length:Nat):Int).toNat) y2.2).length)<|
 aL ((0:Int)≤(0:Int)∧0≤y2.1∧y2.1≤((List.take ((y2.1).toNat) y2.2++List.replicate (((((List.map an y2.2).length:Nat):Int).toNat) - ((y2.1).toNat)) ((⟨0,(⟨0,[],[]⟩:Want),0⟩:Claim):Claim)++List.drop ((((List.map an y2.2).length:Nat):Int).toNat) y2.2).length:Int))<|
 some (List.drop ((0:Int).toNat) (List.take ((y2.1).toNat) (List.take ((y2.1).toNat) y2.2++List.replicate (((((List.map an y2.2).length:Nat):Int).toNat) - ((y2.1).toNat)) ((⟨0,(⟨0,[],[]⟩:Want),0⟩:Claim):Claim)++List.drop ((((List.map an y2.2).length:Nat):Int).toNat) y2.2)))
theorem slices_DeleteFunc_Claim__lock_Free_2_walk {l v r} (h:bC l v=some r):pH 117 [.row 91 5 (List.map an l),.var 3 [vI v]] [.row 0 ((List.map an l).length),.fn (.func 118) [] [.ptr 1 0]] (sL an r) [.gone,.var 3 [vI v]]:=by
 unfold bC at h
 refine pC (G:=⟨tys,[92,118],[],[]⟩) ct mixed Tryz.func117 rfl fun g=>go ?_
 refine cU h slices_IndexFunc_Claim__lock_Free_2_walk [0,1] fun y1 h=>go ?_
 refine cC h rfl (fun c1 h=>go ?_) fun c1 h=>go ?_
 exact eP ⟨42,2,ab [(4,sL an l)],[.gone,.var 3 [vI v]]⟩ (bl.trans (aK 0 rfl) (wF (.g .rest) (.f (.all rfl))))
 refine lQ h (fun s1=>⟨42,2,ab [(0,.row 0 ((List.map an s1.2.2).length)),(1,.fn (.func 118) [] [.ptr 1 0]),(5,vI s1.1),(6,vI s1.2.1)],[.row 91 5 (List.map an s1.2.2),.var 3 [vI v]]⟩) (aO (.exit 0) (fun y2=>⟨42,2,ab [(0,.row 0 ((List.map an y2.2).length)),(5,vI y2.1)],[.row 91 5 (List.map an y2.2),.var 3 [vI v]]⟩)) wA ?_ <|bO fun y2 _ h w=>wk w (go ?_)
 rintro y2 ⟨a1,a2,a3⟩ v1 h r
 replace h:aV v a1 a2 a3=some v1:=h
 unfold aV at h
 dsimp only
 refine go ?_
 refine ⟨rfl,(a3.length:Int),by simp,go ?_⟩
 refine cC h rfl (fun c2 h=>gN 1 ?_) fun c2 h=>xE
 refine k1 h (fun y3=>⟨42,2,ab [(0,.row 0 ((List.map an y3.2).length)),(1,.fn (.func 118) [] [.ptr 1 0]),(5,vI y3.1),(6,vI a2)],[.row 91 5 (List.map an y3.2),.var 3 [vI v]]⟩) (fun y3 h=>go ?_) fun y3 h=>cN
 obtain ⟨x1,q1,h⟩:=bind_some h
 refine ⟨⟨rfl,(bX q1).1,by have:=bX q1;simp only [List.length_map,List.length_set,List.length_cons,List.length_nil] at*;omega⟩,?_⟩
 refine ⟨rfl,_,al an (af q1).2,go ?_⟩
 refine cU h lock_Free_2_walk [1] fun y4 h=>go ?_
 refine cC h rfl (fun c3 h=>go ?_) fun c3 h=>cE
 obtain ⟨x2,q2,h⟩:=bind_some h
 refine ⟨⟨rfl,(bX q2).1,by have:=bX q2;simp only [List.length_map,List.length_set,List.length_cons,List.length_nil] at*;omega⟩,?_⟩
 refine ⟨rfl,_,al an (af q2).2,Nat.le_of_ble_eq_true rfl,List.map an (List.set a3 (a1).toNat x1),map_set an _ _ _ rfl,go ?_⟩
 cases h
 exact ⟨rfl,wI⟩
 obtain ⟨p1,h⟩:=au h
 refine ⟨⟨rfl,by have:=p1;simp only [List.length_map,List.length_append,List.length_take,List.length_drop,List.length_replicate,List.length_set] at*;omega⟩,?_⟩
 refine go ?_
 refine nD h fun p2 h=>⟨by have:=p2;simp only [List.length_map,List.length_append,List.length_take,List.length_drop,List.length_replicate,List.length_set] at*;omega,rfl,List.map an (List.take ((y2.1).toNat) y2.2++List.replicate (((((List.map an y2.2).length:Nat):Int).toNat) - ((y2.1).toNat)) ((⟨0,(⟨0,[],[]⟩:Want),0⟩:Claim):Claim)++List.drop ((((List.map an y2.2).length:Nat):Int).toNat) y2.2),by rw [List.map_append,List.map_append,List.map_take,List.map_drop,List.map_replicate];rfl,go ?_⟩
 obtain ⟨p3,h⟩:=au h
 refine ⟨⟨by first|(simp;done)|(simp only [List.length_map,List.length_append,List.length_take,List.length_drop,List.length_replicate,List.length_set,List.length_mergeSort];omega),by have:=p3;simp only [List.length_map,List.length_append,List.length_take,List.length_drop,List.length_replicate,List.length_set] at*;omega⟩,?_⟩
 refine go ?_
 refine nD h fun p4 h=>⟨by have:=p4;simp only [List.length_map,List.length_append,List.length_take,List.length_drop,List.length_replicate,List.length_set] at*;omega,go ?_⟩
 exact eP ⟨42,2,ab [(4,sL an (List.drop ((0:Int).toNat) (List.take ((y2.1).toNat) (List.take ((y2.1).toNat) y2.2++List.replicate (((((List.map an y2.2).length:Nat):Int).toNat) - ((y2.1).toNat)) ((⟨0,(⟨0,[],[]⟩:Want),0⟩:Claim):Claim)++List.drop ((((List.map an y2.2).length:Nat):Int).toNat) y2.2))))],[.gone,.var 3 [vI v]]⟩ (bl.trans (aK 0 rfl) (wF (.g .rest) (.cons (.one (.frzvw rfl (by first|(simp;done)|(simp only [List.length_map,List.length_append,List.length_take,List.length_drop,List.length_replicate,List.length_set,List.length_mergeSort];omega)) (by rw [List.map_drop,List.map_take]))) (.all rfl))))
def span_empty (w_:Want):Option (Bool):=
 if (!decide (w_.Hi=[])) then some (ltS w_.Hi w_.Lo||decide (w_.Hi=w_.Lo)) else
 some false
theorem span_empty_walk {w_ r} (h:span_empty w_=some r):pP 129 [.agg (aR w_)] (vB r):=by
 unfold span_empty at h
 refine pW0 Tryz.func129 rfl fun g=>go ?_
 refine ⟨_,bs_ne _ _,go ?_⟩
 exact cM h (fun c1 h=>⟨(ltS w_.Hi w_.Lo||decide (w_.Hi=w_.Lo)),bs_le _ _,eF⟩) fun c1 h=>eF
def span_In (w_:Want) (key:Str):Option (Bool):=
 if (!ltS key w_.Lo) then
 if (decide (w_.Hi=[])) then some true else
 some (ltS key w_.Hi)
 else
 some false
theorem span_In_walk {w_ key r} (h:span_In w_ key=some r):pP 207 [.agg (aR w_),vS key] (vB r):=by
 unfold span_In at h
 refine pW0 Tryz.func207 rfl fun g=>go ?_
 refine ⟨(!ltS key w_.Lo),bs_ge _ _,go ?_⟩
 refine cM h (fun c1 h=>⟨_,bs_eq _ _,go ?_⟩) fun c1 h=>eF
 exact cM h (fun c2 h=>eF) fun c2 h=>⟨_,bs_lt _ _,eF⟩
def span_Overlap (a b:Want):Option (Bool):=
 ((span_empty a).bind fun y1=>
 if y1 then some true else
 (span_empty b).bind fun y2=>
 some y2).bind fun (y3:Bool)=>
 if y3 then some false else
 (span_In a b.Lo).bind fun y4=>
 if y4 then some true else
 (span_In b a.Lo).bind fun y5=>
 some y5
theorem span_Overlap_walk {a b r} (h:span_Overlap a b=some r):pP 178 [.agg (aR a),.agg (aR b)] (vB r):=by
 unfold span_Overlap at h
 refine pW0 Tryz.func178 rfl fun g=>gN 3 ?_
 refine k1 h (fun y1=>⟨21,0,ab [(2,.ptr 0 0),(3,.ptr 1 0),(10,vB y1)],[.var 50 (aR a),.var 50 (aR b)]⟩) (fun y1 h=>go ?_) fun y1 h=>(cC h rfl (fun c1 h=>eF) fun c1 h=>go ?_)
 refine cP h span_empty_walk fun y2 h=>go ?_
 refine cM h (fun c2 h=>cE) fun c2 h=>go ?_
 exact cP h span_empty_walk fun y3 h=>cE
 refine cP h span_In_walk fun y4 h=>go ?_
 refine cM h (fun c3 h=>eF) fun c3 h=>go ?_
 exact cP h span_In_walk fun y5 h=>eF
def span_Clash (a b:Want):Option (Bool):=
 (span_Overlap a b).bind fun y1=>
 if y1 then
 if (decide (a.Mode=2)) then some true else
 some (decide (b.Mode=2))
 else
 some false
theorem span_Clash_walk {a b r} (h:span_Clash a b=some r):pP 131 [.agg (aR a),.agg (aR b)] (vB r):=by
 unfold span_Clash at h
 refine pW0 Tryz.func131 rfl fun g=>go ?_
 refine cP h span_Overlap_walk fun y1 h=>go ?_
 refine cM h (fun c1 h=>go ?_) fun c1 h=>eF
 exact cM h (fun c2 h=>eF) fun c2 h=>eF
def lock_Blockers_l2 (l:Locks) (txn:Int) (w_:Want) (a1:Int) (a2:(List Int)):Option ((Int×(List Int))⊕((List Int))):=
 if (decide (a1<(l.Held.length:Int))) then
 ((ix l.Held a1).bind fun x1=>
 (if (!(decide (x1.Txn=txn))) then
 (span_Clash x1.W w_).bind fun y1=>
 some y1
 else
 some false).bind fun (y2:Bool)=>
 if y2 then
 aL ((-9223372036854775808≤x1.Txn∧x1.Txn≤9223372036854775807)∧a2.length<1073741824)<|
 some (insI a2 x1.Txn)
 else
 some a2).bind fun (y3:(List Int))=>
 some (.inl ((IntKind.i64.wrap (a1+1)),y3))
 else
 some (.inr a2)
def lock_Blockers_l4 (l:Locks) (txn:Int) (w_:Want) (n a1:Int) (a2:(List Int)):Option ((Int×(List Int))⊕((List Int))):=
 if (decide (a1<((cut l.Queue 0 (if (l.Queue.length:Int)<(if n<0 then 0 else n) then (l.Queue.length:Int) else (if n<0 then 0 else n))).length:Int))) then
 ((ix (cut l.Queue 0 (if (l.Queue.length:Int)<(if n<0 then 0 else n) then (l.Queue.length:Int) else (if n<0 then 0 else n))) a1).bind fun x1=>
 (if (!(decide (x1.Txn=txn))) then
 (span_Clash x1.W w_).bind fun y1=>
 some y1
 else
 some false).bind fun (y2:Bool)=>
 if y2 then
 aL ((-9223372036854775808≤x1.Txn∧x1.Txn≤9223372036854775807)∧a2.length<1073741824)<|
 some (insI a2 x1.Txn)
 else
 some a2).bind fun (y3:(List Int))=>
 some (.inl ((IntKind.i64.wrap (a1+1)),y3))
 else
 some (.inr a2)
def lock_Blockers (l:Locks) (txn:Int) (w_:Want) (n:Int):Option ((List Int)):=
 (loop (fun (s1:Int×(List Int))=>lock_Blockers_l2 l txn w_ s1.1 s1.2) ((0:Int),([]:List Int))).bind fun (y1:(List Int))=>
 aL ((0:Int)≤(0:Int)∧0≤(if (l.Queue.length:Int)<(if n<0 then 0 else n) then (l.Queue.length:Int) else (if n<0 then 0 else n))∧(if (l.Queue.length:Int)<(if n<0 then 0 else n) then (l.Queue.length:Int) else (if n<0 then 0 else n))≤(l.Queue.length:Int))<|
 (loop (fun (s2:Int×(List Int))=>lock_Blockers_l4 l txn w_ n s2.1 s2.2) ((0:Int),y1)).bind fun (y2:(List Int))=>
 aL (y2.length<1073741824)<|
 some (List.mergeSort y2 leI)
theorem lock_Blockers_walk {l txn w_ n r} (h:lock_Blockers l txn w_ n=some r):pP 82 [.agg (aD l),vI txn,.agg (aR w_),vI n] (sL (ax .i64) r):=by
 unfold lock_Blockers at h
 refine pW (G:=⟨tys,[132,133],[],[]⟩) ct mixed Tryz.func82 rfl fun g=>go ?_
 refine OpP.make 3 4 rfl rfl (go ?_)
 refine ⟨_,(aA _ _).symm,go ?_⟩
 refine lQ h (fun s1=>⟨67,0,ab [(1,vI txn),(3,vI n),(4,.ptr 0 0),(6,.ptr 1 0),(9,.mp 2),(16,sL ay l.Held),(17,vI (l.Held.length:Int)),(18,vI s1.1)],[.var 35 (aD l),.var 50 (aR w_),.ext (mapI Tryz.prog 3 4 s1.2)]⟩) (aO (.exit 0) (fun y1=>⟨67,0,ab [(1,vI txn),(3,vI n),(4,.ptr 0 0),(6,.ptr 1 0),(9,.mp 2)],[.var 35 (aD l),.var 50 (aR w_),.ext (mapI Tryz.prog 3 4 y1)]⟩)) wA ?_ <|bO fun y1 _ h w=>wk w (go ?_)
 rintro y1 ⟨a1,a2⟩ v1 h r
 replace h:lock_Blockers_l2 l txn w_ a1 a2=some v1:=h
 unfold lock_Blockers_l2 at h
 dsimp only
 refine go ?_
 refine cC h rfl (fun c1 h=>gN 1 ?_) fun c1 h=>xE
 refine k1 h (fun y2=>⟨67,0,ab [(1,vI txn),(3,vI n),(4,.ptr 0 0),(6,.ptr 1 0),(9,.mp 2),(16,sL ay l.Held),(17,vI (l.Held.length:Int)),(18,vI a1)],[.var 35 (aD l),.var 50 (aR w_),.ext (mapI Tryz.prog 3 4 y2)]⟩) (fun y2 h=>go ?_) fun y2 h=>cN
 refine bD h fun x1 q1 h=>⟨(af q1).1,_,al ay (af q1).2,rfl,gN 0 ?_⟩
 refine k1 h (fun y3=>⟨67,0,ab [(1,vI txn),(3,vI n),(4,.ptr 0 0),(6,.ptr 1 0),(9,.mp 2),(11,.ptr 3 0),(16,sL ay l.Held),(17,vI (l.Held.length:Int)),(18,vI a1),(31,vB y3)],[.var 35 (aD l),.var 50 (aR w_),.ext (mapI Tryz.prog 3 4 a2),.var 52 (ay x1)]⟩) (fun y3 h=>go ?_) fun y3 h=>(cC h rfl (fun c2 h=>go ?_) fun c2 h=>cE)
 refine cM h (fun c3 h=>go ?_) fun c3 h=>cE
 exact cP h span_Clash_walk fun y4 h=>cE
 obtain ⟨p1,h⟩:=au h
 exact OpP.set rfl rfl rfl rfl rfl rfl Tryz.underlying229 Tryz.underlying3 Tryz.underlying4 p1 cE
 refine ⟨_,(aA _ _).symm,map_len (f:=an) (n:=5) (fun _=>rfl) _,go ?_⟩
 refine nD h fun p2 h=>⟨by simpa only [List.length_map,if_true,if_false,Bool.false_eq_true] using p2,List.map an (cut l.Queue 0 (if (l.Queue.length:Int)<(if n<0 then 0 else n) then (l.Queue.length:Int) else (if n<0 then 0 else n))),map_cut _ _ _ _,_,(aA _ _).symm,go ?_⟩
 refine lQ h (fun s2=>⟨67,0,ab [(1,vI txn),(6,.ptr 1 0),(9,.mp 2),(44,sL an (cut l.Queue 0 (if (l.Queue.length:Int)<(if n<0 then 0 else n) then (l.Queue.length:Int) else (if n<0 then 0 else n)))),(45,vI ((cut l.Queue 0 (if (l.Queue.length:Int)<(if n<0 then 0 else n) then (l.Queue.length:Int) else (if n<0 then 0 else n))).length:Int)),(46,vI s2.1)],[.gone,.var 50 (aR w_),.ext (mapI Tryz.prog 3 4 s2.2)]⟩) (aO (.exit 2) (fun y5=>⟨67,0,ab [(9,.mp 2)],[.gone,.gone,.ext (mapI Tryz.prog 3 4 y5)]⟩)) (wF (.g .rest) (.all rfl)) ?_ <|bO fun y5 _ h w=>wk w (go ?_)
 rintro y5 ⟨a3,a4⟩ v2 h r
 replace h:lock_Blockers_l4 l txn w_ n a3 a4=some v2:=h
 unfold lock_Blockers_l4 at h
 dsimp only
 refine go ?_
 refine cC h rfl (fun c4 h=>gN 1 ?_) fun c4 h=>go ?_
 refine k1 h (fun y6=>⟨67,0,ab [(1,vI txn),(6,.ptr 1 0),(9,.mp 2),(44,sL an (cut l.Queue 0 (if (l.Queue.length:Int)<(if n<0 then 0 else n) then (l.Queue.length:Int) else (if n<0 then 0 else n)))),(45,vI ((cut l.Queue 0 (if (l.Queue.length:Int)<(if n<0 then 0 else n) then (l.Queue.length:Int) else (if n<0 then 0 else n))).length:Int)),(46,vI a3)],[.gone,.var 50 (aR w_),.ext (mapI Tryz.prog 3 4 y6)]⟩) (fun y6 h=>go ?_) fun y6 h=>cN
 refine bD h fun x2 q2 h=>⟨(af q2).1,_,al an (af q2).2,rfl,gN 0 ?_⟩
 refine k1 h (fun y7=>⟨67,0,ab [(1,vI txn),(6,.ptr 1 0),(9,.mp 2),(13,.ptr 3 0),(44,sL an (cut l.Queue 0 (if (l.Queue.length:Int)<(if n<0 then 0 else n) then (l.Queue.length:Int) else (if n<0 then 0 else n)))),(45,vI ((cut l.Queue 0 (if (l.Queue.length:Int)<(if n<0 then 0 else n) then (l.Queue.length:Int) else (if n<0 then 0 else n))).length:Int)),(46,vI a3),(59,vB y7)],[.gone,.var 50 (aR w_),.ext (mapI Tryz.prog 3 4 a4),.var 91 (an x2)]⟩) (fun y7 h=>go ?_) fun y7 h=>(cC h rfl (fun c5 h=>go ?_) fun c5 h=>cE)
 refine cM h (fun c6 h=>go ?_) fun c6 h=>cE
 exact cP h span_Clash_walk fun y8 h=>cE
 obtain ⟨p3,h⟩:=au h
 exact OpP.set rfl rfl rfl rfl rfl rfl Tryz.underlying229 Tryz.underlying3 Tryz.underlying4 p3 cE
 cases h
 obtain rfl:=r _ rfl
 exact ⟨rfl,(wF (.s (.g .rest)) (.all rfl))⟩
 refine keys_133 (go ?_)
 obtain ⟨p4,h⟩:=au h
 refine sorted_132 rfl rfl p4 (go ?_)
 refine dt ⟨by first|(simp;done)|(simp only [List.length_map,List.length_append,List.length_take,List.length_drop,List.length_replicate,List.length_set,List.length_mergeSort];omega),go ?_⟩
 cases h
 rfl
def lock_Settle_l9 (a1:(List Hold)) (a2:(List Claim)) (a3:(List Int)) (a4:Int):Option ((Int)⊕(((List Hold)×(List Claim)×(List Int))⊕(Unit))):=
 if (decide (a4<(a2.length:Int))) then
 (ix a2 a4).bind fun x1=>
 (lock_Blockers (⟨a1,a2⟩:Locks) x1.Txn x1.W a4).bind fun y1=>
 if (decide ((y1.length:Int)>0)) then some (.inl (IntKind.i64.wrap (a4+1))) else
 aL (a2.length*56≤140737488355328)<|
 aL (0≤a4∧a4≤(IntKind.i64.wrap (a4+1))∧(IntKind.i64.wrap (a4+1))≤(a2.length:Int)∧(a2.length:Int)<4611686018427387904∧0<a2.length)<|
 aL (a1.length*48≤140737488355328)<|
 aL ((a1.length+1)*48≤140737488355328)<|
 aL ((a3.length+1)*8≤140737488355328)<|
 some (.inr (.inl ((a1++[(⟨x1.Txn,x1.W⟩:Hold)]),(List.take a4.toNat a2++List.drop (IntKind.i64.wrap (a4+1)).toNat a2),(a3++[x1.Txn]))))
 else
 some (.inr (.inr ()))
def lock_Settle_l7 (a1:(List Hold)) (a2:(List Claim)) (a3:(List Int)):Option (((List Hold)×(List Claim)×(List Int))⊕((List Hold)×(List Claim)×(List Int))):=
 (loop (fun (s1:Int)=>lock_Settle_l9 a1 a2 a3 s1) (0:Int)).bind fun (y1:((List Hold)×(List Claim)×(List Int))⊕(Unit))=>
 match y1 with
 |(.inl v1)=>
  some (.inl (v1.1,v1.2.1,v1.2.2))
 |(.inr v2)=>
 some (.inr (a1,a2,a3))
def lock_Settle (l:Locks):Option (Locks×(List Int)):=
 (loop (fun (s1:(List Hold)×(List Claim)×(List Int))=>lock_Settle_l7 s1.1 s1.2.1 s1.2.2) (l.Held,l.Queue,([]:(List Int)))).bind fun (y1:(List Hold)×(List Claim)×(List Int))=>
 some ((⟨y1.1,y1.2.1⟩:Locks),y1.2.2)
theorem lock_Settle_walk {l r} (h:lock_Settle l=some r):pP 119 [.agg (aD l)] (.tup [.agg (aD r.1),sL (ax .i64) r.2]):=by
 unfold lock_Settle at h
 refine pW (G:=⟨tys,[167],[(84,91,5),(83,52,4)],[167]⟩) ct mixed Tryz.func119 rfl fun g=>go ?_
 refine lQ h (fun s1=>⟨51,0,ab [(1,.ptr 0 0),(2,.ptr 1 0),(4,.row 2 ((List.map (ax .i64) s1.2.2).length))],[.var 35 [sL ay s1.1,sL an s1.2.1],.var 35 [vN,vN],.row 3 1 (List.map (ax .i64) s1.2.2)]⟩) (aO .ret (fun y1=>⟨51,0,ab [(2,.ptr 1 0),(3,.row 2 ((List.map (ax .i64) y1.2.2).length))],[.gone,.var 35 [sL ay y1.1,sL an y1.2.1],.row 3 1 (List.map (ax .i64) y1.2.2)]⟩)) (bl.trans (weak_nil 4 3 1 rfl) wI) ?_ <|bO fun y1 _ h w=>eFw
 rintro y1 ⟨a1,a2,a3⟩ v1 h r
 replace h:lock_Settle_l7 a1 a2 a3=some v1:=h
 unfold lock_Settle_l7 at h
 dsimp only
 refine go ?_
 refine ⟨_,(aA _ _).symm,go ?_⟩
 refine lQ h (fun s2=>⟨51,0,ab [(1,.ptr 0 0),(2,.ptr 1 0),(4,.row 2 ((List.map (ax .i64) a3).length)),(8,sL an a2),(9,vI (a2.length:Int)),(10,vI s2)],[.var 35 [sL ay a1,sL an a2],.var 35 [vN,vN],.row 3 1 (List.map (ax .i64) a3)]⟩) (Sum.elim (aO (.exit 1) (fun v2=>⟨51,0,ab [(1,.ptr 0 0),(2,.ptr 1 0),(4,.row 2 ((List.map (ax .i64) v2.2.2).length))],[.var 35 [sL ay v2.1,sL an v2.2.1],.var 35 [vN,vN],.row 3 1 (List.map (ax .i64) v2.2.2)]⟩)) (aO (.exit 2) (fun _=>⟨51,0,ab [(1,.ptr 0 0),(2,.ptr 1 0),(4,.row 2 ((List.map (ax .i64) a3).length))],[.var 35 [sL ay a1,sL an a2],.var 35 [vN,vN],.row 3 1 (List.map (ax .i64) a3)]⟩))) wA ?_ <|bE (bO fun v2 _ h w=>cNw)<|bO fun v3 _ h w=>wk w (go ?_)
 rintro y2 a4 v4 h r
 replace h:lock_Settle_l9 a1 a2 a3 a4=some v4:=h
 unfold lock_Settle_l9 at h
 refine go ?_
 refine cC h rfl (fun c1 h=>go ?_) fun c1 h=>xE
 refine bD h fun x1 q1 h=>⟨(af q1).1,_,al an (af q1).2,rfl,go ?_⟩
 refine cP h lock_Blockers_walk fun y3 h=>⟨_,(aA _ _).symm,go ?_⟩
 refine cC h rfl (fun c2 h=>cN) fun c2 h=>go ?_
 obtain ⟨p1,h⟩:=au h
 refine mF (clone_84 a2 p1) ⟨rfl,go ?_⟩
 obtain ⟨p2,h⟩:=au h
 refine mE (delete_167 a2 a4 (IntKind.i64.wrap (a4+1)) p2) (go ?_)
 obtain ⟨p3,h⟩:=au h
 obtain ⟨p4,h⟩:=au h
 refine cp.many 11 (.k [0,1,3,4,5,6,7] (.alt 2 (.o 8 (.o 9 (.k [10] .fin))) (.o 8 (.o 2 (.o 9 (.k [10] .fin)))))) [] (⟨51,0,ab [(1,.ptr 0 0),(2,.ptr 1 0),(4,.row 2 ((List.map (ax .i64) a3).length)),(6,.ptr 3 0),(41,sL ay (a1++[(⟨x1.Txn,x1.W⟩:Hold)])),(42,.ptr 0 0)],[.var 35 [sL ay a1,.row 5 ((List.map an (List.take a4.toNat a2++List.drop (IntKind.i64.wrap (a4+1)).toNat a2)).length)],.var 35 [vN,vN],.row 3 1 (List.map (ax .i64) a3),.var 91 (an x1),.gone,.row 91 5 (List.map an (List.take a4.toNat a2++List.drop (IntKind.i64.wrap (a4+1)).toNat a2))]⟩) (by kernel_rfl) ⟨go ?_,⟨⟨List.map ay [(⟨x1.Txn,x1.W⟩:Hold)],rfl,go ?_,⟨⟩⟩,⟨⟩⟩⟩ (go ?_)
 refine mF (clone_83 a1 p3) ⟨⟨List.map ay [(⟨x1.Txn,x1.W⟩:Hold)],rfl,⟨rfl,rfl,by simp only [List.length_map];exact p4,List.map ay (a1++[(⟨x1.Txn,x1.W⟩:Hold)]),dk ay _ _ rfl rfl,go ?_⟩,⟨⟩⟩,⟨⟩⟩
 exact bl.trans (aK 6 rfl) (wF .rest (.s (.s (.s (.s (.f (.all rfl)))))))
 refine mF (clone_83 a1 p3) ⟨⟨rfl,rfl,by simp only [List.length_map];exact p4,List.map ay (a1++[(⟨x1.Txn,x1.W⟩:Hold)]),dk ay _ _ rfl rfl,go ?_⟩,⟨⟩⟩
 exact bl.trans (aK 7 rfl) (wF .rest (.s (.s (.s (.s (.f (.all rfl)))))))
 refine ⟨List.map (ax .i64) [x1.Txn],rfl,rfl,rfl,go ?_⟩
 refine nD h fun p5 h=>⟨by simp only [List.length_map];exact p5,List.map (ax .i64) (a3++[x1.Txn]),dk (ax .i64) _ _ rfl rfl,go ?_⟩
 cases h
 obtain rfl:=r _ rfl
 exact ⟨rfl,bl.trans (aK 5 rfl) (wF (.cons (.var (.cons (.same rfl) (.cons (.frz rfl (rfl)) (.nil)))) .rest) (.all rfl))⟩
 cases h
 obtain rfl:=r _ rfl
 exact ⟨rfl,(wF (.g .rest) (.all rfl))⟩
def lock_Free (l:Locks) (txn:Int):Option (Locks×(List Int)):=
 aL (l.Held.length*48≤140737488355328)<|
 (bQ l.Held txn).bind fun y1=>
 aL (l.Queue.length*56≤140737488355328)<|
 (bC l.Queue txn).bind fun y3=>
 (lock_Settle (⟨y1,y3⟩:Locks)).bind fun y4=>
 some (y4.1,y4.2)
theorem lock_Free_walk {l txn r} (h:lock_Free l txn=some r):pP 72 [.agg (aD l),vI txn] (.tup [.agg (aD r.1),sL (ax .i64) r.2]):=by
 unfold lock_Free at h
 refine pW (G:=⟨tys,[115,117],[(83,52,4),(84,91,5)],[]⟩) ct mixed Tryz.func72 rfl fun g=>go ?_
 obtain ⟨p1,h⟩:=au h
 refine mF (clone_83 l.Held p1) (go ?_)
 refine cU h slices_DeleteFunc_Hold__lock_Free_1_walk [3,1] fun y1 h=>go ?_
 obtain ⟨p2,h⟩:=au h
 refine mF (clone_84 l.Queue p2) (go ?_)
 refine cU h slices_DeleteFunc_Claim__lock_Free_2_walk [4,1] fun y3 h=>go ?_
 exact cP h lock_Settle_walk fun y4 h=>eF
def engine_work_put (v:Engine) (l:(List Done)) (t:Txn):Option (Engine):=
 aL (v.T.length*136≤140737488355328)<|
 (engine_at v t.Id).bind fun y1=>
 (ix v.T y1).bind fun x1=>
 some (⟨v.X,v.L,(List.set v.T (y1).toNat t),v.Next,v.Now⟩:Engine)
theorem engine_work_put_walk {v l t r} (h:engine_work_put v l t=some r):pH 56 [.var 96 (ag v++[.row 1 ((List.map ak l).length)]),.row 63 6 (List.map ak l)] [.ptr 0 0,.agg (aB t)] (.tup []) [.var 96 (ag r++[.row 1 ((List.map ak l).length)]),.row 63 6 (List.map ak l)]:=by
 unfold engine_work_put at h
 refine pC (G:=⟨tys,[],[(40,46,10)],[]⟩) ct mixed Tryz.func56 rfl fun g=>go ?_
 obtain ⟨p1,h⟩:=au h
 refine mF (clone_40 v.T p1) (go ?_)
 refine cp.one 14 (.k [0,1,2,3,4,5,6,7,8,9,10,12] (.o 11 (.k [13] .fin))) [] (by kernel_rfl) ⟨⟨rfl,go ?_⟩,⟨⟩⟩
 refine cP h engine_at_walk fun y1 h=>go ?_
 obtain ⟨x1,q1,h⟩:=bind_some h
 refine ⟨⟨rfl,(bX q1).1,by have:=bX q1;simp only [List.length_map,List.length_set,List.length_cons,List.length_nil] at*;omega⟩,?_⟩
 refine ⟨rfl,_,al aB (af q1).2,Nat.le_of_ble_eq_true rfl,List.map aB (List.set v.T (y1).toNat t),map_set aB _ _ _ rfl,go ?_⟩
 exact eP ⟨28,2,ab [],[.var 96 (ag (⟨v.X,v.L,(List.set v.T (y1).toNat t),v.Next,v.Now⟩:Engine)++[.row 1 ((List.map ak l).length)]),.row 63 6 (List.map ak l)]⟩ (bl.trans (aK 3 rfl) (wF (.cons (.var (.cons (.same rfl) (.cons (.same rfl) (.cons (.same rfl) (.cons (.same rfl) (.cons (.same rfl) (.cons (.same rfl) (.cons (.same rfl) (.cons (.same rfl) (.cons (.same rfl) (.cons (.same rfl) (.cons (.same rfl) (.cons (.same rfl) (.cons (.frz rfl (by first|(simp;done)|(simp only [List.length_map,List.length_append,List.length_take,List.length_drop,List.length_replicate,List.length_set,List.length_mergeSort];omega))) (.cons (.same rfl) (.cons (.same rfl) (.cons (.same rfl) (.nil)))))))))))))))))) .rest) (.all rfl)))
def view_Get_1 (y:Write) (v:Str):Option (Bool):=
 some (decide (y.Key=v))
theorem view_Get_1_walk {y v r} (h:view_Get_1 y v=some r):pH 135 [.var 9 [vS v]] [.agg (am y),.ptr 0 0] (vB r) [.var 9 [vS v]]:=by
 unfold view_Get_1 at h
 refine pC0 Tryz.func135 rfl fun g=>go ?_
 refine ⟨_,bs_eq _ _,go ?_⟩
 exact eP ⟨8,1,ab [(3,vB (decide (y.Key=v)))],[.var 9 [vS v]]⟩ wA
def bJ (l:(List Write)) (v:Str) (a1:Int):Option ((Int)⊕((Int)⊕(Unit))):=
 if (decide (a1<(l.length:Int))) then
 (ix l a1).bind fun x1=>
 (view_Get_1 x1 v).bind fun y1=>
 if y1 then some (.inr (.inl a1)) else
 some (.inl (IntKind.i64.wrap (a1+1)))
 else
 some (.inr (.inr ()))
def b9 (l:(List Write)) (v:Str):Option (Int):=
 (loop (fun (s1:Int)=>bJ l v s1) (0:Int)).bind fun (y1:(Int)⊕(Unit))=>
 match y1 with
 |(.inl v1)=>
  some v1
 |(.inr v2)=>
 some (-1)
theorem view_first_Write__view_Get_1_walk {l v r} (h:b9 l v=some r):pH 134 [.var 9 [vS v]] [sL am l,.fn (.func 135) [] [.ptr 0 0]] (vI r) [.var 9 [vS v]]:=by
 unfold b9 at h
 refine pC (G:=⟨tys,[135],[],[]⟩) ct mixed Tryz.func134 rfl fun g=>go ?_
 refine ⟨_,(aA _ _).symm,go ?_⟩
 refine lQ h (fun s1=>⟨19,1,ab [(1,.fn (.func 135) [] [.ptr 0 0]),(7,sL am l),(8,vI (l.length:Int)),(9,vI s1)],[.var 9 [vS v]]⟩) (Sum.elim (aO .ret (fun v1=>⟨19,1,ab [(4,vI v1)],[.var 9 [vS v]]⟩)) (aO (.exit 0) (fun _=>⟨19,1,ab [],[.var 9 [vS v]]⟩))) wA ?_ <|bE (bO fun v1 _ h w=>go ?_)<|bO fun v2 _ h w=>wk w (go ?_)
 rintro y1 a1 v3 h r
 replace h:bJ l v a1=some v3:=h
 unfold bJ at h
 refine go ?_
 refine cC h rfl (fun c1 h=>go ?_) fun c1 h=>xE
 refine bD h fun x1 q1 h=>⟨(af q1).1,_,al am (af q1).2,rfl,go ?_⟩
 refine cU h view_Get_1_walk [0] fun y2 h=>go ?_
 exact cC h rfl (fun c2 h=>xE) fun c2 h=>cN
 exact eP ⟨19,1,ab [(4,vI v1)],[.var 9 [vS v]]⟩ (bl.trans w wA)
 exact eP ⟨19,1,ab [(4,vI (-1))],[.var 9 [vS v]]⟩ wA
def view_Get (w_:(List Write)) (base:(List Pair)) (key:Str):Option (Str×Bool):=
 (b9 w_ key).bind fun y1=>
 if (decide (y1<0)) then
 (table_Find base key).bind fun y2=>
 some (y2.1,y2.2)
 else
 (ix w_ y1).bind fun x1=>
 if x1.Del then some ([],false) else
 some (x1.Val,true)
theorem view_Get_walk {w_ base key r} (h:view_Get w_ base key=some r):pP 86 [sL am w_,sL ac base,vS key] (.tup [vS r.1,vB r.2]):=by
 unfold view_Get at h
 refine pW (G:=⟨tys,[134],[],[]⟩) ct mixed Tryz.func86 rfl fun g=>go ?_
 refine cU h view_first_Write__view_Get_1_walk [0] fun y1 h=>go ?_
 refine cC h rfl (fun c1 h=>go ?_) fun c1 h=>go ?_
 exact cP h table_Find_walk fun y2 h=>eF
 refine bD h fun x1 q1 h=>⟨(af q1).1,_,al am (af q1).2,rfl,go ?_⟩
 refine cC h rfl (fun c2 h=>eF) fun c2 h=>go ?_
 refine ⟨(af q1).1,_,al am (af q1).2,rfl,eF⟩
def table_Between (key lo hi:Str):Option (Bool):=
 if (!ltS key lo) then
 if (decide (hi=[])) then some true else
 some (ltS key hi)
 else
 some false
theorem table_Between_walk {key lo hi r} (h:table_Between key lo hi=some r):pP 182 [vS key,vS lo,vS hi] (vB r):=by
 unfold table_Between at h
 refine pW0 Tryz.func182 rfl fun g=>go ?_
 refine ⟨(!ltS key lo),bs_ge _ _,go ?_⟩
 refine cM h (fun c1 h=>⟨_,bs_eq _ _,go ?_⟩) fun c1 h=>eF
 exact cM h (fun c2 h=>eF) fun c2 h=>⟨_,bs_lt _ _,eF⟩
def table_Range_l2 (l:(List Pair)) (lo hi:Str) (most a1:Int) (a2:(List Pair)):Option ((Int×(List Pair))⊕((List Pair))):=
 if (decide (a1<(l.length:Int))) then
 ((ix l a1).bind fun x1=>
 if (decide ((a2.length:Int)≥most)) then some (.inr ()) else
 (table_Between x1.Key lo hi).bind fun y1=>
 if y1 then
 aL ((a2.length+1)*32≤140737488355328)<|
 some (.inl (a2++[x1]))
 else
 some (.inl a2)).bind fun (y2:((List Pair))⊕(Unit))=>
 match y2 with
 |(.inl v1)=>
  some (.inl ((IntKind.i64.wrap (a1+1)),v1))
 |(.inr v2)=>
 some (.inr a2)
 else
 some (.inr a2)
def table_Range (l:(List Pair)) (lo hi:Str) (most:Int):Option ((List Pair)):=
 (loop (fun (s1:Int×(List Pair))=>table_Range_l2 l lo hi most s1.1 s1.2) ((0:Int),([]:(List Pair)))).bind fun (y1:(List Pair))=>
 some y1
theorem table_Range_walk {l lo hi most r} (h:table_Range l lo hi most=some r):pP 136 [sL ac l,vS lo,vS hi,vI most] (sL ac r):=by
 unfold table_Range at h
 refine pW0 Tryz.func136 rfl fun g=>go ?_
 refine ⟨_,(aA _ _).symm,go ?_⟩
 refine lQ h (fun s1=>⟨33,0,ab [(1,vS lo),(2,vS hi),(3,vI most),(9,.row 0 ((List.map ac s1.2).length)),(12,sL ac l),(13,vI (l.length:Int)),(14,vI s1.1)],[.row 103 2 (List.map ac s1.2)]⟩) (aO (.exit 0) (fun y1=>⟨33,0,ab [(9,.row 0 ((List.map ac y1).length))],[.row 103 2 (List.map ac y1)]⟩)) (bl.trans (weak_nil 9 103 2 rfl) wI) ?_ <|bO fun y1 _ h w=>wk w eF
 rintro y1 ⟨a1,a2⟩ v1 h r
 replace h:table_Range_l2 l lo hi most a1 a2=some v1:=h
 unfold table_Range_l2 at h
 dsimp only
 refine go ?_
 refine cC h rfl (fun c1 h=>gN 1 ?_) fun c1 h=>xE
 refine kS h (Sum.elim (aO .normal (fun v2=>⟨33,0,ab [(1,vS lo),(2,vS hi),(3,vI most),(9,.row 0 ((List.map ac v2).length)),(12,sL ac l),(13,vI (l.length:Int)),(14,vI a1)],[.row 103 2 (List.map ac v2)]⟩)) (aO (.exit 0) (fun _=>⟨33,0,ab [(9,.row 0 ((List.map ac a2).length))],[.row 103 2 (List.map ac a2)]⟩))) (fun y2 h=>go ?_)<|bE (bO fun v2 _ h w=>wk w cN)<|bO fun v3 _ h w=>xEw
 refine bD h fun x1 q1 h=>⟨(af q1).1,_,al ac (af q1).2,rfl,go ?_⟩
 refine ⟨rfl,(a2.length:Int),by simp,go ?_⟩
 refine cC h rfl (fun c2 h=>cE) fun c2 h=>go ?_
 refine cP h table_Between_walk fun y3 h=>go ?_
 refine cC h rfl (fun c3 h=>go ?_) fun c3 h=>cE
 refine ⟨List.map ac [x1],rfl,rfl,rfl,go ?_⟩
 refine nD h fun p1 h=>⟨by simp only [List.length_map];exact p1,List.map ac (a2++[x1]),dk ac _ _ rfl rfl,cE⟩
def view_Scan (w_:(List Write)) (base:(List Pair)) (lo hi:Str) (most:Int):Option ((List Pair)):=
 (table_Apply base w_).bind fun y1=>
 (table_Range y1 lo hi most).bind fun y2=>
 some y2
theorem view_Scan_walk {w_ base lo hi most r} (h:view_Scan w_ base lo hi most=some r):pP 87 [sL am w_,sL ac base,vS lo,vS hi,vI most] (sL ac r):=by
 unfold view_Scan at h
 refine pW0 Tryz.func87 rfl fun g=>go ?_
 refine cP h table_Apply_walk fun y1 h=>go ?_
 exact cP h table_Range_walk fun y2 h=>eF
def view_Set_1 (y v:Write):Option (Bool):=
 some (decide (y.Key=v.Key))
theorem view_Set_1_walk {y v r} (h:view_Set_1 y v=some r):pH 137 [.var 67 (am v)] [.agg (am y),.ptr 0 0] (vB r) [.var 67 (am v)]:=by
 unfold view_Set_1 at h
 refine pC0 Tryz.func137 rfl fun g=>go ?_
 refine ⟨_,bs_eq _ _,go ?_⟩
 exact eP ⟨9,1,ab [(3,vB (decide (y.Key=v.Key)))],[.var 67 (am v)]⟩ wA
def bI (l:(List Write)) (v:Write) (a1:Int):Option ((Int)⊕((Int)⊕(Unit))):=
 if (decide (a1<(l.length:Int))) then
 (ix l a1).bind fun x1=>
 (view_Set_1 x1 v).bind fun y1=>
 if y1 then some (.inr (.inl a1)) else
 some (.inl (IntKind.i64.wrap (a1+1)))
 else
 some (.inr (.inr ()))
def b8 (l:(List Write)) (v:Write):Option (Int):=
 (loop (fun (s1:Int)=>bI l v s1) (0:Int)).bind fun (y1:(Int)⊕(Unit))=>
 match y1 with
 |(.inl v1)=>
  some v1
 |(.inr v2)=>
 some (-1)
theorem view_first_Write__view_Set_1_walk {l v r} (h:b8 l v=some r):pH 134 [.var 67 (am v)] [sL am l,.fn (.func 137) [] [.ptr 0 0]] (vI r) [.var 67 (am v)]:=by
 unfold b8 at h
 refine pC (G:=⟨tys,[137],[],[]⟩) ct mixed Tryz.func134 rfl fun g=>go ?_
 refine ⟨_,(aA _ _).symm,go ?_⟩
 refine lQ h (fun s1=>⟨19,1,ab [(1,.fn (.func 137) [] [.ptr 0 0]),(7,sL am l),(8,vI (l.length:Int)),(9,vI s1)],[.var 67 (am v)]⟩) (Sum.elim (aO .ret (fun v1=>⟨19,1,ab [(4,vI v1)],[.var 67 (am v)]⟩)) (aO (.exit 0) (fun _=>⟨19,1,ab [],[.var 67 (am v)]⟩))) wA ?_ <|bE (bO fun v1 _ h w=>go ?_)<|bO fun v2 _ h w=>wk w (go ?_)
 rintro y1 a1 v3 h r
 replace h:bI l v a1=some v3:=h
 unfold bI at h
 refine go ?_
 refine cC h rfl (fun c1 h=>go ?_) fun c1 h=>xE
 refine bD h fun x1 q1 h=>⟨(af q1).1,_,al am (af q1).2,rfl,go ?_⟩
 refine cU h view_Set_1_walk [0] fun y2 h=>go ?_
 exact cC h rfl (fun c2 h=>xE) fun c2 h=>cN
 exact eP ⟨19,1,ab [(4,vI v1)],[.var 67 (am v)]⟩ (bl.trans w wA)
 exact eP ⟨19,1,ab [(4,vI (-1))],[.var 67 (am v)]⟩ wA
def view_Set_2 (y v:Write):Option (Bool):=
 some (!(ltS y.Key v.Key||decide (y.Key=v.Key)))
theorem view_Set_2_walk {y v r} (h:view_Set_2 y v=some r):pH 139 [.var 67 (am v)] [.agg (am y),.ptr 0 0] (vB r) [.var 67 (am v)]:=by
 unfold view_Set_2 at h
 refine pC0 Tryz.func139 rfl fun g=>go ?_
 refine ⟨(!(ltS y.Key v.Key||decide (y.Key=v.Key))),bs_gt _ _,go ?_⟩
 exact eP ⟨9,1,ab [(3,vB (!(ltS y.Key v.Key||decide (y.Key=v.Key))))],[.var 67 (am v)]⟩ wA
def bH (l:(List Write)) (v:Write) (a1:Int):Option ((Int)⊕((Int)⊕(Unit))):=
 if (decide (a1<(l.length:Int))) then
 (ix l a1).bind fun x1=>
 (view_Set_2 x1 v).bind fun y1=>
 if y1 then some (.inr (.inl a1)) else
 some (.inl (IntKind.i64.wrap (a1+1)))
 else
 some (.inr (.inr ()))
def b7 (l:(List Write)) (v:Write):Option (Int):=
 (loop (fun (s1:Int)=>bH l v s1) (0:Int)).bind fun (y1:(Int)⊕(Unit))=>
 match y1 with
 |(.inl v1)=>
  some v1
 |(.inr v2)=>
 some (-1)
theorem view_first_Write__view_Set_2_walk {l v r} (h:b7 l v=some r):pH 134 [.var 67 (am v)] [sL am l,.fn (.func 139) [] [.ptr 0 0]] (vI r) [.var 67 (am v)]:=by
 unfold b7 at h
 refine pC (G:=⟨tys,[139],[],[]⟩) ct mixed Tryz.func134 rfl fun g=>go ?_
 refine ⟨_,(aA _ _).symm,go ?_⟩
 refine lQ h (fun s1=>⟨19,1,ab [(1,.fn (.func 139) [] [.ptr 0 0]),(7,sL am l),(8,vI (l.length:Int)),(9,vI s1)],[.var 67 (am v)]⟩) (Sum.elim (aO .ret (fun v1=>⟨19,1,ab [(4,vI v1)],[.var 67 (am v)]⟩)) (aO (.exit 0) (fun _=>⟨19,1,ab [],[.var 67 (am v)]⟩))) wA ?_ <|bE (bO fun v1 _ h w=>go ?_)<|bO fun v2 _ h w=>wk w (go ?_)
 rintro y1 a1 v3 h r
 replace h:bH l v a1=some v3:=h
 unfold bH at h
 refine go ?_
 refine cC h rfl (fun c1 h=>go ?_) fun c1 h=>xE
 refine bD h fun x1 q1 h=>⟨(af q1).1,_,al am (af q1).2,rfl,go ?_⟩
 refine cU h view_Set_2_walk [0] fun y2 h=>go ?_
 exact cC h rfl (fun c2 h=>xE) fun c2 h=>cN
 exact eP ⟨19,1,ab [(4,vI v1)],[.var 67 (am v)]⟩ (bl.trans w wA)
 exact eP ⟨19,1,ab [(4,vI (-1))],[.var 67 (am v)]⟩ wA
def view_Set (w_:(List Write)) (x:Write):Option ((List Write)):=
 (b8 w_ x).bind fun y1=>
 if (decide (y1≥0)) then
 aL (w_.length*40≤140737488355328)<|
 (ix w_ y1).bind fun x1=>
 some (List.set w_ (y1).toNat x)
 else
 (b7 w_ x).bind fun y2=>
 if (decide (y2<0)) then
 aL ((w_.length+1)*40≤140737488355328)<|
 some (w_++[x])
 else
 aL (0≤y2∧y2<(w_.length:Int)∧(w_.length+1)*40≤140737488355328)<|
 some (List.take y2.toNat w_++[x]++List.drop y2.toNat w_)
theorem view_Set_walk {w_ x r} (h:view_Set w_ x=some r):pP 88 [sL am w_,.agg (am x)] (sL am r):=by
 unfold view_Set at h
 refine pW (G:=⟨tys,[134,140],[(138,67,3)],[]⟩) ct mixed Tryz.func88 rfl fun g=>go ?_
 refine ⟨_,(aA _ _).symm,_,(aA _ _).symm,go ?_⟩
 refine ⟨⟨by simp,rfl,by simp,by simp⟩,?_⟩
 refine go ?_
 refine du.unslc (cU h view_first_Write__view_Set_1_walk [0] fun y1 h=>go ?_)
 refine cC h rfl (fun c1 h=>go ?_) fun c1 h=>go ?_
 obtain ⟨p1,h⟩:=au h
 refine mF (clone_138 w_ p1) (go ?_)
 obtain ⟨x1,q1,h⟩:=bind_some h
 refine ⟨⟨rfl,(bX q1).1,by have:=bX q1;simp only [List.length_map,List.length_set,List.length_cons,List.length_nil] at*;omega⟩,?_⟩
 refine ⟨rfl,_,al am (af q1).2,Nat.le_of_ble_eq_true rfl,List.map am (List.set w_ (y1).toNat x),map_set am _ _ _ rfl,go ?_⟩
 refine dt ⟨by first|(simp;done)|(simp only [List.length_map,List.length_append,List.length_take,List.length_drop,List.length_replicate,List.length_set,List.length_mergeSort];omega),go ?_⟩
 cases h
 rfl
 refine du.unslc (cU h view_first_Write__view_Set_2_walk [0] fun y2 h=>go ?_)
 refine cC h rfl (fun c2 h=>go ?_) fun c2 h=>go ?_
 refine ⟨List.map am [x],rfl,go ?_⟩
 obtain ⟨p2,h⟩:=au h
 exact OpP.appcR am w_ [x] g.ty rfl rfl rfl rfl ⟨_,rfl,rfl⟩ rfl rfl rfl (rfl) (fun _=>rfl) ⟨by simp,p2⟩ eF
 refine ⟨List.map am [x],rfl,go ?_⟩
 obtain ⟨p3,h⟩:=au h
 exact insertc_140 am w_ x y2 p3 (fun _=>rfl) rfl eF
def view_Size_l2 (w_:(List Write)) (a1 a2:Int):Option ((Int×Int)⊕(Int)):=
 if (decide (a2<(w_.length:Int))) then
 (ix w_ a2).bind fun x1=>
 some (.inl ((IntKind.i64.wrap (a1+(IntKind.i64.wrap ((x1.Key.length:Int)+(x1.Val.length:Int))))),(IntKind.i64.wrap (a2+1))))
 else
 some (.inr a1)
def view_Size (w_:(List Write)):Option (Int):=
 (loop (fun (s1:Int×Int)=>view_Size_l2 w_ s1.1 s1.2) ((0:Int),(0:Int))).bind fun (y1:Int)=>
 some y1
theorem view_Size_walk {w_ r} (h:view_Size w_=some r):pP 89 [sL am w_] (vI r):=by
 unfold view_Size at h
 refine pW0 Tryz.func89 rfl fun g=>go ?_
 refine ⟨_,(aA _ _).symm,go ?_⟩
 refine lQ h (fun s1=>⟨23,0,ab [(3,vI s1.1),(6,sL am w_),(7,vI (w_.length:Int)),(8,vI s1.2)],[]⟩) (aO (.exit 0) (fun y1=>⟨23,0,ab [(3,vI y1)],[]⟩)) wA ?_ <|bO fun y1 _ h w=>wk w eF
 rintro y1 ⟨a1,a2⟩ v1 h r
 replace h:view_Size_l2 w_ a1 a2=some v1:=h
 unfold view_Size_l2 at h
 dsimp only
 refine go ?_
 refine cC h rfl (fun c1 h=>go ?_) fun c1 h=>xE
 refine bD h fun x1 q1 h=>⟨(af q1).1,_,al am (af q1).2,rfl,go ?_⟩
 refine ⟨(x1.Key.length:Int),rfl,(x1.Val.length:Int),rfl,cN⟩
def engine_work_does (v:Engine) (l:(List Done)) (t:Txn) (op:Op_):Option (Engine×(List Done)):=
 ((if (decide (op.Kind=1)) then
 (view_Get t.Writes v.X.S.Data op.Key).bind fun y1=>
 some (.inr (y1.1,y1.2,[]))
 else
 if (decide (op.Kind=4)) then
 (view_Scan t.Writes v.X.S.Data op.Lo op.Hi op.Most).bind fun y2=>
 some (.inr ([],false,y2))
 else
 if (decide (op.Kind=3)) then some (.inl true) else
 if (decide (op.Kind=2)) then some (.inl false) else
 some (.inr ([],false,[]))).bind fun (y3:(Bool)⊕(Str×Bool×(List Pair)))=>
 match y3 with
 |(.inl v1)=>
  (view_Set t.Writes (⟨op.Key,(if (!v1) then op.Val else []),v1⟩:Write)).bind fun y4=>
  (if (decide ((y4.length:Int)>24)) then some true else
  (view_Size y4).bind fun y5=>
  some (decide (y5>512))).bind fun (y6:Bool)=>
  if y6 then some (v,4,[],false,[]) else
  (engine_work_put v l (⟨t.Id,t.Token,y4,t.Waits,t.Op⟩:Txn)).bind fun y7=>
  some (y7,0,[],false,[])
 |(.inr v2)=>
 some (v,0,v2.1,v2.2.1,v2.2.2):Option (Engine×Int×Str×Bool×(List Pair))).bind fun y8=>
 aL ((l.length+1)*72≤140737488355328)<|
 some (y8.1,(l++[(⟨t.Id,y8.2.1,y8.2.2.1,y8.2.2.2.1,y8.2.2.2.2,false⟩:Done)]))
theorem engine_work_does_walk {v l t op r} (h:engine_work_does v l t op=some r):pH 55 [.var 96 (ag v++[.row 1 ((List.map ak l).length)]),.row 63 6 (List.map ak l)] [.ptr 0 0,.agg (aB t),.agg (encOp_ op)] (.tup []) [.var 96 (ag r.1++[.row 1 ((List.map ak r.2).length)]),.row 63 6 (List.map ak r.2)]:=by
 unfold engine_work_does at h
 refine pC (G:=⟨tys,[56],[],[]⟩) ct mixed Tryz.func55 rfl fun g=>gN 6 ?_
 refine k1 h (fun y1=>⟨94,2,ab [(0,.ptr 0 0),(6,.ptr 4 0)],[.var 96 (ag y1.1++[.row 1 ((List.map ak l).length)]),.row 63 6 (List.map ak l),.gone,.gone,.var 63 [vI t.Id,vI y1.2.1,vS y1.2.2.1,vB y1.2.2.2.1,sL ac y1.2.2.2.2,vB false]]⟩) (fun y1 h=>gN 3 ?_) fun y1 h=>go ?_
 refine kS h (Sum.elim (aO .normal (fun v1=>⟨94,2,ab [(0,.ptr 0 0),(4,.ptr 2 0),(5,.ptr 3 0),(6,.ptr 4 0),(7,.ptr 5 0)],[.var 96 (ag v++[.row 1 ((List.map ak l).length)]),.row 63 6 (List.map ak l),.var 46 (aB t),.var 44 (encOp_ op),.var 63 [vI t.Id,vI 0,vS [],vB false,vN,vB false],.var 67 [vS op.Key,vS [],vB v1]]⟩)) (aO (.exit 0) (fun v2=>⟨94,2,ab [(0,.ptr 0 0),(6,.ptr 4 0)],[.var 96 (ag v++[.row 1 ((List.map ak l).length)]),.row 63 6 (List.map ak l),.gone,.gone,.var 63 [vI t.Id,vI 0,vS v2.1,vB v2.2.1,sL ac v2.2.2,vB false]]⟩))) (fun y2 h=>go ?_)<|bE (bO fun v1 _ h w=>wk w (gN 1 ?_))<|bO fun v2 _ h w=>cEw
 refine cC h rfl (fun c1 h=>go ?_) fun c1 h=>go ?_
 refine cp.one 17 (.k [0,1,2,3,4,5,6,7,8,9,10] (.o 11 (.k [12,13,14,15] (.o 16 .fin)))) [4,6,7,8,9,10,11] (by kernel_rfl) ⟨go ?_,⟨⟩⟩
 refine cP h view_Get_walk fun y3 h=>⟨go ?_,⟨⟩⟩
 cases h
 exact ⟨rfl,(wF (.s (.s (.g (.g (.cons (.var (.cons (.same rfl) (.cons (.same rfl) (.cons (.same rfl) (.cons (.same rfl) (.cons (.nil) (.cons (.same rfl) (.nil)))))))) .rest))))) (.all rfl))⟩
 refine cC h rfl (fun c2 h=>go ?_) fun c2 h=>go ?_
 refine cp.one 17 (.k [0,1,2,3,4,5,6,7,8,9,10,11,12,13,14] (.o 15 (.k [16] .fin))) [] (by kernel_rfl) ⟨go ?_,⟨⟩⟩
 refine cP h view_Scan_walk fun y4 h=>go ?_
 cases h
 exact ⟨rfl,(wF (.s (.s (.g (.g .rest)))) (.all rfl))⟩
 refine cC h rfl (fun c3 h=>cE) fun c3 h=>go ?_
 refine cC h rfl (fun c4 h=>cE) fun c4 h=>go ?_
 cases h
 exact ⟨rfl,(wF (.s (.s (.g (.g (.cons (.var (.cons (.same rfl) (.cons (.same rfl) (.cons (.same rfl) (.cons (.same rfl) (.cons (.nil) (.cons (.same rfl) (.nil)))))))) .rest))))) (.all rfl))⟩
 refine k0 ⟨94,2,ab [(0,.ptr 0 0),(4,.ptr 2 0),(6,.ptr 4 0),(7,.ptr 5 0)],[.var 96 (ag v++[.row 1 ((List.map ak l).length)]),.row 63 6 (List.map ak l),.var 46 (aB t),.gone,.var 63 [vI t.Id,vI 0,vS [],vB false,vN,vB false],.var 67 [vS op.Key,vS (if (!v1) then op.Val else []),vB v1]]⟩ (go ?_) (go ?_)
 refine cD (!v1) rfl (fun i1=>go ?_) fun i1=>go ?_
 exact ⟨rfl,(wF (.s (.s (.s (.g (.s (.cons (.var (.cons (.same rfl) (.cons (.same (show (vS op.Val:AV)=(vS (if (!v1) then op.Val else []):AV) from by first|(simp [i1];done)|(simp only [i1,Bool.or_true,Bool.true_or,Bool.false_or,Bool.or_false,Bool.and_true,Bool.true_and,Bool.and_false,Bool.false_and,Bool.not_true,Bool.not_false,if_true,if_false,Bool.false_eq_true];done)|(exfalso;revert i1;simp+contextual;done))) (.cons (.same rfl) (.nil))))) .rest)))))) (.all rfl))⟩
 exact ⟨rfl,(wF (.s (.s (.s (.g (.s (.cons (.var (.cons (.same rfl) (.cons (.same (show (vS []:AV)=(vS (if (!v1) then op.Val else []):AV) from by first|(simp [i1];done)|(simp only [i1,Bool.or_true,Bool.true_or,Bool.false_or,Bool.or_false,Bool.and_true,Bool.true_and,Bool.and_false,Bool.false_and,Bool.not_true,Bool.not_false,if_true,if_false,Bool.false_eq_true];done)|(exfalso;revert i1;simp+contextual;done))) (.cons (.same rfl) (.nil))))) .rest)))))) (.all rfl))⟩
 refine cP h view_Set_walk fun y5 h=>gN 1 ?_
 refine k1 h (fun y6=>⟨94,2,ab [(0,.ptr 0 0),(4,.ptr 2 0),(6,.ptr 4 0),(8,sL am y5),(77,vB y6)],[.var 96 (ag v++[.row 1 ((List.map ak l).length)]),.row 63 6 (List.map ak l),.var 46 (aB t),.gone,.var 63 [vI t.Id,vI 0,vS [],vB false,vN,vB false]]⟩) (fun y6 h=>go ?_) fun y6 h=>(cC h rfl (fun c5 h=>go ?_) fun c5 h=>go ?_)
 refine ⟨_,(aA _ _).symm,go ?_⟩
 refine cM h (fun c6 h=>cE) fun c6 h=>go ?_
 exact cP h view_Size_walk fun y7 h=>cE
 cases h
 exact ⟨rfl,(wF (.s (.s (.g (.s (.cons (.var (.cons (.same rfl) (.cons (.same rfl) (.cons (.same rfl) (.cons (.same rfl) (.cons (.nil) (.cons (.same rfl) (.nil)))))))) .rest))))) (.all rfl))⟩
 refine cU h engine_work_put_walk [0,1] fun y8 h=>go ?_
 cases h
 exact ⟨rfl,(wF (.s (.s (.g (.s (.cons (.var (.cons (.same rfl) (.cons (.same rfl) (.cons (.same rfl) (.cons (.same rfl) (.cons (.nil) (.cons (.same rfl) (.nil)))))))) .rest))))) (.all rfl))⟩
 refine cp.one 10 (.k [0,1,2,3,4,5] (.o 6 (.o 7 (.k [8,9] .fin)))) [] (by kernel_rfl) ⟨⟨List.map ak [(⟨t.Id,y1.2.1,y1.2.2.1,y1.2.2.2.1,y1.2.2.2.2,false⟩:Done)],rfl,⟨rfl,rfl,go ?_⟩,⟨⟩⟩,⟨⟩⟩
 refine nD h fun p1 h=>⟨by simp only [List.length_map];exact p1,List.map ak (l++[(⟨t.Id,y1.2.1,y1.2.2.1,y1.2.2.2.1,y1.2.2.2.2,false⟩:Done)]),dk ak _ _ rfl rfl,go ?_⟩
 exact eP ⟨94,2,ab [],[.var 96 (ag y1.1++[.row 1 ((List.map ak (l++[(⟨t.Id,y1.2.1,y1.2.2.1,y1.2.2.2.1,y1.2.2.2.2,false⟩:Done)])).length)]),.row 63 6 (List.map ak (l++[(⟨t.Id,y1.2.1,y1.2.2.1,y1.2.2.2.1,y1.2.2.2.2,false⟩:Done)]))]⟩ wA
def engine_work_goes_l2 (y1:Locks×(List Int)) (a1:Int) (a2:Engine) (a3:(List Done)):Option ((Int×Engine×(List Done))⊕(Engine×(List Done))):=
 if (decide (a1<(y1.2.length:Int))) then
 ((ix y1.2 a1).bind fun x1=>
 (dw a2 x1).bind fun y2=>
 if (!y2.2) then some (a2,a3) else
 (engine_work_put a2 a3 (⟨y2.1.Id,y2.1.Token,y2.1.Writes,false,(⟨0,[],[],[],[],0⟩:Op_)⟩:Txn)).bind fun y3=>
 (engine_work_does y3 a3 (⟨y2.1.Id,y2.1.Token,y2.1.Writes,false,(⟨0,[],[],[],[],0⟩:Op_)⟩:Txn) y2.1.Op).bind fun y4=>
 some (y4.1,y4.2)).bind fun (y5:Engine×(List Done))=>
 some (.inl ((IntKind.i64.wrap (a1+1)),y5.1,y5.2))
 else
 some (.inr (a2,a3))
def engine_work_goes (v:Engine) (l:(List Done)) (id:Int):Option (Engine×(List Done)):=
 aL (v.T.length*136≤140737488355328)<|
 (aM v.T id).bind fun y1=>
 (lock_Free v.L id).bind fun y2=>
 (loop (fun (s1:Int×Engine×(List Done))=>engine_work_goes_l2 y2 s1.1 s1.2.1 s1.2.2) ((0:Int),(⟨v.X,y2.1,y1,v.Next,v.Now⟩:Engine),l)).bind fun (y3:Engine×(List Done))=>
 some (y3.1,y3.2)
theorem engine_work_goes_walk {v l id r} (h:engine_work_goes v l id=some r):pH 50 [.var 96 (ag v++[.row 1 ((List.map ak l).length)]),.row 63 6 (List.map ak l)] [.ptr 0 0,vI id] (.tup []) [.var 96 (ag r.1++[.row 1 ((List.map ak r.2).length)]),.row 63 6 (List.map ak r.2)]:=by
 unfold engine_work_goes at h
 refine pC (G:=⟨tys,[55,56,70],[(40,46,10)],[]⟩) ct mixed Tryz.func50 rfl fun g=>go ?_
 obtain ⟨p1,h⟩:=au h
 refine mF (clone_40 v.T p1) (go ?_)
 refine cU h slices_DeleteFunc_Txn__engine_work_goes_1_walk [3,2] fun y1 h=>go ?_
 obtain ⟨y2,q1,h⟩:=bind_some h
 refine cp.many 12 (.k [0,1,2,3,4,5] (.alt 6 (.k [7,8,9] (.o 10 (.o 11 .fin))) (.o 10 (.o 6 (.k [7,8,9] (.o 11 .fin)))))) [4,5,6,7,8,9] (⟨68,2,ab [(0,.ptr 0 0),(4,.ptr 4 0),(32,sL (ax .i64) y2.2)],[.var 96 (ag (⟨v.X,v.L,y1,v.Next,v.Now⟩:Engine)++[.row 1 ((List.map ak l).length)]),.row 63 6 (List.map ak l),.var 3 [vI id],.gone,.var 35 (aD y2.1)]⟩) (by kernel_rfl) ⟨go ?_,⟨⟨go ?_,⟨⟩⟩,⟨⟩⟩⟩ (go ?_)
 exact mP (lock_Free_walk q1) ⟨⟨cA,⟨⟩⟩,⟨⟩⟩
 exact mP (lock_Free_walk q1) ⟨cA,⟨⟩⟩
 refine ⟨_,(aA _ _).symm,go ?_⟩
 refine lQ h (fun s1=>⟨68,2,ab [(0,.ptr 0 0),(38,sL (ax .i64) y2.2),(39,vI (y2.2.length:Int)),(40,vI s1.1)],[.var 96 (ag s1.2.1++[.row 1 ((List.map ak s1.2.2).length)]),.row 63 6 (List.map ak s1.2.2)]⟩) (aO (.exit 0) (fun y3=>⟨68,2,ab [],[.var 96 (ag y3.1++[.row 1 ((List.map ak y3.2).length)]),.row 63 6 (List.map ak y3.2)]⟩)) (wF (.cons (.var (.cons (.same rfl) (.cons (.same rfl) (.cons (.same rfl) (.cons (.same rfl) (.cons (.same rfl) (.cons (.same rfl) (.cons (.same rfl) (.cons (.same rfl) (.cons (.same rfl) (.cons (.same rfl) (.cons (.same rfl) (.cons (.same rfl) (.cons (.same rfl) (.cons (.same rfl) (.cons (.same rfl) (.cons (.same rfl) (.nil)))))))))))))))))) .rest) (.all rfl)) ?_ <|bO fun y3 _ h w=>go ?_
 rintro y3 ⟨a1,a2,a3⟩ v1 h r
 replace h:engine_work_goes_l2 y2 a1 a2 a3=some v1:=h
 unfold engine_work_goes_l2 at h
 dsimp only
 refine go ?_
 refine cC h rfl (fun c1 h=>gN 1 ?_) fun c1 h=>xE
 refine k1 h (fun y4=>⟨68,2,ab [(0,.ptr 0 0),(38,sL (ax .i64) y2.2),(39,vI (y2.2.length:Int)),(40,vI a1)],[.var 96 (ag y4.1++[.row 1 ((List.map ak y4.2).length)]),.row 63 6 (List.map ak y4.2)]⟩) (fun y4 h=>go ?_) fun y4 h=>cN
 refine bD h fun x1 q2 h=>⟨(af q2).1,_,al (ax .i64) (af q2).2,rfl,go ?_⟩
 refine cP h cr fun y5 h=>go ?_
 refine cC h rfl (fun c2 h=>cE) fun c2 h=>go ?_
 refine cU h engine_work_put_walk [0,1] fun y6 h=>go ?_
 exact cU h engine_work_does_walk [0,1] fun y7 h=>cE
 exact eP ⟨68,2,ab [],[.var 96 (ag y3.1++[.row 1 ((List.map ak y3.2).length)]),.row 63 6 (List.map ak y3.2)]⟩ (bl.trans w wA)
def cV (v:Engine) (l:(List Done)) (id e:Int):Option (Engine×(List Done)):=
 aL ((l.length+1)*72≤140737488355328)<|
 (engine_work_goes v (l++[(⟨id,e,[],false,[],true⟩:Done)]) id).bind fun y1=>
 some (y1.1,y1.2)
theorem engine_work_ends_walk {v l id e r} (h:cV v l id e=some r):pH 29 [.var 96 (ag v++[.row 1 ((List.map ak l).length)]),.row 63 6 (List.map ak l)] [.ptr 0 0,vI id,vI e] (.tup []) [.var 96 (ag r.1++[.row 1 ((List.map ak r.2).length)]),.row 63 6 (List.map ak r.2)]:=by
 unfold cV at h
 refine pC (G:=⟨tys,[50],[],[]⟩) ct mixed Tryz.func29 rfl fun g=>go ?_
 refine ⟨List.map ak [(⟨id,e,[],false,[],true⟩:Done)],rfl,rfl,rfl,go ?_⟩
 refine nD h fun p1 h=>⟨by simp only [List.length_map];exact p1,List.map ak (l++[(⟨id,e,[],false,[],true⟩:Done)]),dk ak _ _ rfl rfl,gN 0 ?_⟩
 refine dz.weak (show bl _ ⟨21,2,ab [(0,.ptr 0 0),(1,vI id),(2,vI e),(6,.ptr 0 0),(7,.ptr 0 0),(8,.ptr 0 0),(9,.ptr 0 15),(11,vI id),(12,vI e),(13,.agg [vI id,vI e,vS [],vB false,vN,vB true]),(14,.row 2 1),(15,.row 1 ((List.map ak (l++[(⟨id,e,[],false,[],true⟩:Done)])).length)),(16,.ptr 0 0),(17,.ptr 0 15)],[.var 96 (ag v++[.row 1 ((List.map ak (l++[(⟨id,e,[],false,[],true⟩:Done)])).length)]),.row 63 6 (List.map ak (l++[(⟨id,e,[],false,[],true⟩:Done)])),.row 63 6 (List.map ak [(⟨id,e,[],false,[],true⟩:Done)])]⟩ from wA) (go ?_)
 refine cU h engine_work_goes_walk [0,1] fun y1 h=>go ?_
 exact eP ⟨21,2,ab [],[.var 96 (ag y1.1++[.row 1 ((List.map ak y1.2).length)]),.row 63 6 (List.map ak y1.2)]⟩ wA
def span_Key (mode:Int) (key:Str):Option (Want):=
 aL (key.length+([0]:Str).length≤9223372036854775807)<|
 some (⟨mode,key,(key++[0])⟩:Want)
theorem span_Key_walk {mode key r} (h:span_Key mode key=some r):pP 85 [vI mode,vS key] (.agg (aR r)):=by
 unfold span_Key at h
 refine pW0 Tryz.func85 rfl fun g=>go ?_
 refine nD h fun p1 h=>⟨p1,_,dD _ _,eF⟩
def engine_wants (op:Op_):Option (Want):=
 if (decide (op.Kind=1)) then
 (span_Key 1 op.Key).bind fun y1=>
 some y1
 else
 if (decide (op.Kind=4)) then some (⟨1,op.Lo,op.Hi⟩:Want) else
 (span_Key 2 op.Key).bind fun y2=>
 some y2
theorem engine_wants_walk {op r} (h:engine_wants op=some r):pP 53 [.agg (encOp_ op)] (.agg (aR r)):=by
 unfold engine_wants at h
 refine pW0 Tryz.func53 rfl fun g=>go ?_
 refine cC h rfl (fun c1 h=>go ?_) fun c1 h=>go ?_
 exact cP h span_Key_walk fun y1 h=>eF
 refine cC h rfl (fun c2 h=>eF) fun c2 h=>go ?_
 exact cP h span_Key_walk fun y2 h=>eF
def engine_until (now:Int):Option (Int):=
 some (IntKind.u64.wrap (now+(if (IntKind.u64.wrap ((BitVec.ofInt 64 18446744073709551615 ^^^ BitVec.ofInt 64 now).toNat:Int))<5 then (IntKind.u64.wrap ((BitVec.ofInt 64 18446744073709551615 ^^^ BitVec.ofInt 64 now).toNat:Int)) else 5)))
theorem engine_until_walk {now r} (h:engine_until now=some r):pP 54 [vU now] (vU r):=by
 unfold engine_until at h
 exact pW0 Tryz.func54 rfl fun g=>eF
def span_May (w_:Want):Option (Bool):=
 (if ((!(decide (w_.Mode=1)))&&(!(decide (w_.Mode=2)))) then some (.inl ()) else
 (span_empty w_).bind fun y1=>
 if y1 then some (.inl ()) else
 some (.inr ())).bind fun (y2:(Unit)⊕(Unit))=>
 match y2 with
 |(.inl v1)=>
  some false
 |(.inr v2)=>
 some true
theorem span_May_walk {w_ r} (h:span_May w_=some r):pP 80 [.agg (aR w_)] (vB r):=by
 unfold span_May at h
 refine pW0 Tryz.func80 rfl fun g=>gN 4 ?_
 refine kS h (Sum.elim (aO .normal (fun _=>⟨15,0,ab [],[]⟩)) (aO (.exit 0) (fun _=>⟨15,0,ab [],[]⟩))) (fun y1 h=>gN 4 ?_)<|bE (bO fun v1 _ h w=>wk w eF)<|bO fun v2 _ h w=>wk w eF
 refine k0 ⟨15,0,ab [(1,.ptr 0 0),(3,vB ((!(decide (w_.Mode=1)))&&(!(decide (w_.Mode=2)))))],[.var 50 (aR w_)]⟩ (go ?_) ((cC h rfl (fun c1 h=>cE) fun c1 h=>go ?_))
 exact cK (!(decide (w_.Mode=1))) (fun i1=>cI) fun i1=>cI
 refine cP h span_empty_walk fun y2 h=>go ?_
 exact cC h rfl (fun c2 h=>cE) fun c2 h=>cE
def lock_Waits_1 (c:Claim) (v:Int):Option (Bool):=
 some (decide (c.Txn=v))
theorem lock_Waits_1_walk {c v r} (h:lock_Waits_1 c v=some r):pH 59 [.var 3 [vI v]] [.agg (an c),.ptr 0 0] (vB r) [.var 3 [vI v]]:=by
 unfold lock_Waits_1 at h
 refine pC0 Tryz.func59 rfl fun g=>go ?_
 exact eP ⟨8,1,ab [(3,vB (decide (c.Txn=v)))],[.var 3 [vI v]]⟩ wA
def aT (s:(List Claim)) (v a1:Int):Option ((Int)⊕((Int)⊕(Unit))):=
 if (decide (a1<(s.length:Int))) then
 (ix s a1).bind fun x1=>
 (lock_Waits_1 x1 v).bind fun y1=>
 if y1 then some (.inr (.inl a1)) else
 some (.inl (IntKind.i64.wrap (a1+1)))
 else
 some (.inr (.inr ()))
def cn (s:(List Claim)) (v:Int):Option (Int):=
 (loop (fun (s1:Int)=>aT s v s1) (0:Int)).bind fun (y1:(Int)⊕(Unit))=>
 match y1 with
 |(.inl v1)=>
  some v1
 |(.inr v2)=>
 some (-1)
theorem slices_IndexFunc_Claim__lock_Waits_1_walk {s v r} (h:cn s v=some r):pH 92 [.var 3 [vI v]] [sL an s,.fn (.func 59) [] [.ptr 0 0]] (vI r) [.var 3 [vI v]]:=by
 unfold cn at h
 refine pC (G:=⟨tys,[59],[],[]⟩) ct mixed Tryz.func92 rfl fun g=>go ?_
 refine ⟨_,(aA _ _).symm,go ?_⟩
 refine lQ h (fun s1=>⟨19,1,ab [(0,sL an s),(1,.fn (.func 59) [] [.ptr 0 0]),(7,vI (s.length:Int)),(8,vI s1)],[.var 3 [vI v]]⟩) (Sum.elim (aO .ret (fun v1=>⟨19,1,ab [(4,vI v1)],[.var 3 [vI v]]⟩)) (aO (.exit 0) (fun _=>⟨19,1,ab [],[.var 3 [vI v]]⟩))) wA ?_ <|bE (bO fun v1 _ h w=>go ?_)<|bO fun v2 _ h w=>wk w (go ?_)
 rintro y1 a1 v3 h r
 replace h:aT s v a1=some v3:=h
 unfold aT at h
 refine go ?_
 refine cC h rfl (fun c1 h=>go ?_) fun c1 h=>xE
 refine bD h fun x1 q1 h=>⟨(af q1).1,_,al an (af q1).2,rfl,go ?_⟩
 refine cU h lock_Waits_1_walk [0] fun y2 h=>go ?_
 exact cC h rfl (fun c2 h=>xE) fun c2 h=>cN
 exact eP ⟨19,1,ab [(4,vI v1)],[.var 3 [vI v]]⟩ (bl.trans w wA)
 exact eP ⟨19,1,ab [(4,vI (-1))],[.var 3 [vI v]]⟩ wA
def b6 (s:(List Claim)) (v:Int):Option (Bool):=
 (cn s v).bind fun y1=>
 some (decide (y1≥0))
theorem slices_ContainsFunc_Claim__lock_Waits_1_walk {s v r} (h:b6 s v=some r):pH 58 [.var 3 [vI v]] [sL an s,.fn (.func 59) [] [.ptr 0 0]] (vB r) [.var 3 [vI v]]:=by
 unfold b6 at h
 refine pC (G:=⟨tys,[92],[],[]⟩) ct mixed Tryz.func58 rfl fun g=>go ?_
 refine cU h slices_IndexFunc_Claim__lock_Waits_1_walk [0] fun y1 h=>go ?_
 exact eP ⟨9,1,ab [(4,vB (decide (y1≥0)))],[.var 3 [vI v]]⟩ wA
def lock_Waits (l:Locks) (txn:Int):Option (Bool):=
 (b6 l.Queue txn).bind fun y1=>
 some y1
theorem lock_Waits_walk {l txn r} (h:lock_Waits l txn=some r):pP 33 [.agg (aD l),vI txn] (vB r):=by
 unfold lock_Waits at h
 refine pW (G:=⟨tys,[58],[],[]⟩) ct mixed Tryz.func33 rfl fun g=>go ?_
 exact cU h slices_ContainsFunc_Claim__lock_Waits_1_walk [1] fun y1 h=>eF
def span_Covers (a b:Want):Option (Bool):=
 ((span_May b).bind fun y1=>
 if (!y1) then some (.inl ()) else
 if ((!(decide (a.Mode=2)))&&(decide (b.Mode=2))) then some (.inl ()) else
 if (decide (a=b)) then some (.inr (.inl ())) else
 some (.inr (.inr ()))).bind fun (y2:(Unit)⊕(Unit)⊕(Unit))=>
 match y2 with
 |(.inl v1)=>
  some false
 |(.inr (.inl v2))=>
  some true
 |(.inr (.inr v3))=>
 if (ltS a.Lo b.Lo||decide (a.Lo=b.Lo)) then
 if (decide (a.Hi=[])) then some true else
 if (!decide (b.Hi=[])) then some (ltS b.Hi a.Hi||decide (b.Hi=a.Hi)) else
 some false
 else
 some false
theorem span_Covers_walk {a b r} (h:span_Covers a b=some r):pP 79 [.agg (aR a),.agg (aR b)] (vB r):=by
 unfold span_Covers at h
 refine pW0 Tryz.func79 rfl fun g=>gN 6 ?_
 refine kS h (Sum.elim (aO .normal (fun _=>⟨44,0,ab [],[]⟩)) (Sum.elim (aO (.exit 3) (fun _=>⟨44,0,ab [],[]⟩)) (aO (.exit 0) (fun _=>⟨44,0,ab [(2,.ptr 0 0),(3,.ptr 1 0)],[.var 50 (aR a),.var 50 (aR b)]⟩)))) (fun y1 h=>go ?_)<|bE (bO fun v1 _ h w=>wk w eF) (bE (bO fun v2 _ h w=>wk w eF)<|bO fun v3 _ h w=>wk w (go ?_))
 refine cP h span_May_walk fun y2 h=>go ?_
 refine cC h rfl (fun c1 h=>cE) fun c1 h=>gN 2 ?_
 refine k0 ⟨44,0,ab [(2,.ptr 0 0),(3,.ptr 1 0),(9,vB ((!(decide (a.Mode=2)))&&(decide (b.Mode=2))))],[.var 50 (aR a),.var 50 (aR b)]⟩ (go ?_) ((cC h rfl (fun c2 h=>cE) fun c2 h=>go ?_))
 exact cK (!(decide (a.Mode=2))) (fun i1=>cI) fun i1=>cI
 refine ⟨(decide (a=b)),eq_Want _ _,go ?_⟩
 exact cC h rfl (fun c3 h=>cE) fun c3 h=>cE
 refine ⟨(ltS a.Lo b.Lo||decide (a.Lo=b.Lo)),bs_le _ _,go ?_⟩
 refine cM h (fun c4 h=>⟨_,bs_eq _ _,go ?_⟩) fun c4 h=>eF
 refine cM h (fun c5 h=>eF) fun c5 h=>⟨_,bs_ne _ _,go ?_⟩
 exact cM h (fun c6 h=>⟨(ltS b.Hi a.Hi||decide (b.Hi=a.Hi)),bs_le _ _,eF⟩) fun c6 h=>eF
def lock_Ask_1 (h_:Hold) (v:Int) (v1:Want):Option (Bool):=
 if (decide (h_.Txn=v)) then
 (span_Covers h_.W v1).bind fun y1=>
 some y1
 else
 some false
theorem lock_Ask_1_walk {h_ v v1 r} (h:lock_Ask_1 h_ v v1=some r):pH 78 [.var 3 [vI v],.var 50 (aR v1)] [.agg (ay h_),.ptr 0 0,.ptr 1 0] (vB r) [.var 3 [vI v],.var 50 (aR v1)]:=by
 unfold lock_Ask_1 at h
 refine pC0 Tryz.func78 rfl fun g=>go ?_
 refine cM h (fun c1 h=>go ?_) fun c1 h=>go ?_
 refine cP h span_Covers_walk fun y1 h=>go ?_
 exact eP ⟨15,2,ab [(4,vB y1)],[.var 3 [vI v],.var 50 (aR v1)]⟩ wA
 exact eP ⟨15,2,ab [(4,vB false)],[.var 3 [vI v],.var 50 (aR v1)]⟩ wA
def bi (s:(List Hold)) (v:Int) (v1:Want) (a1:Int):Option ((Int)⊕((Int)⊕(Unit))):=
 if (decide (a1<(s.length:Int))) then
 (ix s a1).bind fun x1=>
 (lock_Ask_1 x1 v v1).bind fun y1=>
 if y1 then some (.inr (.inl a1)) else
 some (.inl (IntKind.i64.wrap (a1+1)))
 else
 some (.inr (.inr ()))
def cS (s:(List Hold)) (v:Int) (v1:Want):Option (Int):=
 (loop (fun (s1:Int)=>bi s v v1 s1) (0:Int)).bind fun (y1:(Int)⊕(Unit))=>
 match y1 with
 |(.inl v3)=>
  some v3
 |(.inr v4)=>
 some (-1)
theorem slices_IndexFunc_Hold__lock_Ask_1_walk {s v v1 r} (h:cS s v v1=some r):pH 130 [.var 3 [vI v],.var 50 (aR v1)] [sL ay s,.fn (.func 78) [] [.ptr 0 0,.ptr 1 0]] (vI r) [.var 3 [vI v],.var 50 (aR v1)]:=by
 unfold cS at h
 refine pC (G:=⟨tys,[78],[],[]⟩) ct mixed Tryz.func130 rfl fun g=>go ?_
 refine ⟨_,(aA _ _).symm,go ?_⟩
 refine lQ h (fun s1=>⟨19,2,ab [(0,sL ay s),(1,.fn (.func 78) [] [.ptr 0 0,.ptr 1 0]),(7,vI (s.length:Int)),(8,vI s1)],[.var 3 [vI v],.var 50 (aR v1)]⟩) (Sum.elim (aO .ret (fun v3=>⟨19,2,ab [(4,vI v3)],[.var 3 [vI v],.var 50 (aR v1)]⟩)) (aO (.exit 0) (fun _=>⟨19,2,ab [],[.var 3 [vI v],.var 50 (aR v1)]⟩))) wA ?_ <|bE (bO fun v3 _ h w=>go ?_)<|bO fun v4 _ h w=>wk w (go ?_)
 rintro y1 a1 v5 h r
 replace h:bi s v v1 a1=some v5:=h
 unfold bi at h
 refine go ?_
 refine cC h rfl (fun c1 h=>go ?_) fun c1 h=>xE
 refine bD h fun x1 q1 h=>⟨(af q1).1,_,al ay (af q1).2,rfl,go ?_⟩
 refine cU h lock_Ask_1_walk [0,1] fun y2 h=>go ?_
 exact cC h rfl (fun c2 h=>xE) fun c2 h=>cN
 exact eP ⟨19,2,ab [(4,vI v3)],[.var 3 [vI v],.var 50 (aR v1)]⟩ (bl.trans w wA)
 exact eP ⟨19,2,ab [(4,vI (-1))],[.var 3 [vI v],.var 50 (aR v1)]⟩ wA
def bF (s:(List Hold)) (v:Int) (v1:Want):Option (Bool):=
 (cS s v v1).bind fun y1=>
 some (decide (y1≥0))
theorem slices_ContainsFunc_Hold__lock_Ask_1_walk {s v v1 r} (h:bF s v v1=some r):pH 81 [.var 3 [vI v],.var 50 (aR v1)] [sL ay s,.fn (.func 78) [] [.ptr 0 0,.ptr 1 0]] (vB r) [.var 3 [vI v],.var 50 (aR v1)]:=by
 unfold bF at h
 refine pC (G:=⟨tys,[130],[],[]⟩) ct mixed Tryz.func81 rfl fun g=>go ?_
 refine cU h slices_IndexFunc_Hold__lock_Ask_1_walk [0,1] fun y1 h=>go ?_
 exact eP ⟨9,2,ab [(4,vB (decide (y1≥0)))],[.var 3 [vI v],.var 50 (aR v1)]⟩ wA
def lock_Ask (l:Locks) (txn:Int) (w_:Want) (until_:Int):Option (Locks×Int):=
 (if (decide (txn<1)) then some true else
 (span_May w_).bind fun y1=>
 some (!y1)).bind fun (y2:Bool)=>
 if y2 then some (l,1) else
 (lock_Waits l txn).bind fun y3=>
 if y3 then some (l,8) else
 (bF l.Held txn w_).bind fun y4=>
 if y4 then some (l,0) else
 (lock_Blockers l txn w_ (l.Queue.length:Int)).bind fun y5=>
 if (decide ((y5.length:Int)=0)) then
 aL (l.Held.length*48≤140737488355328)<|
 aL ((l.Held.length+1)*48≤140737488355328)<|
 some ((⟨(l.Held++[(⟨txn,w_⟩:Hold)]),l.Queue⟩:Locks),0)
 else
 if (decide ((l.Queue.length:Int)≥16)) then some (l,11) else
 aL (l.Queue.length*56≤140737488355328)<|
 aL ((l.Queue.length+1)*56≤140737488355328)<|
 some ((⟨l.Held,(l.Queue++[(⟨txn,w_,until_⟩:Claim)])⟩:Locks),12)
theorem lock_Ask_walk {l txn w_ until_ r} (h:lock_Ask l txn w_ until_=some r):pP 52 [.agg (aD l),vI txn,.agg (aR w_),vU until_] (.tup [.agg (aD r.1),vI r.2]):=by
 unfold lock_Ask at h
 refine pW (G:=⟨tys,[81],[(83,52,4),(84,91,5)],[]⟩) ct mixed Tryz.func52 rfl fun g=>gN 6 ?_
 refine k1 h (fun y1=>⟨69,0,ab [(3,vU until_),(4,.ptr 0 0),(5,.ptr 1 0),(6,.ptr 2 0),(8,.ptr 3 0),(10,.fn (.func 78) [] [.ptr 1 0,.ptr 2 0]),(12,vB y1)],[.var 35 (aD l),.var 3 [vI txn],.var 50 (aR w_),.var 35 [vN,vN]]⟩) (fun y1 h=>go ?_) fun y1 h=>(cC h rfl (fun c1 h=>eF) fun c1 h=>go ?_)
 refine cM h (fun c2 h=>cE) fun c2 h=>go ?_
 exact cP h span_May_walk fun y2 h=>cE
 refine cP h lock_Waits_walk fun y3 h=>go ?_
 refine cC h rfl (fun c3 h=>eF) fun c3 h=>go ?_
 refine cU h slices_ContainsFunc_Hold__lock_Ask_1_walk [1,2] fun y4 h=>go ?_
 refine cC h rfl (fun c4 h=>eF) fun c4 h=>go ?_
 refine ⟨_,(aA _ _).symm,go ?_⟩
 refine cP h lock_Blockers_walk fun y5 h=>⟨_,(aA _ _).symm,go ?_⟩
 refine cC h rfl (fun c5 h=>go ?_) fun c5 h=>go ?_
 obtain ⟨p1,h⟩:=au h
 obtain ⟨p2,h⟩:=au h
 refine cp.many 9 (.k [0,1,3,4,5] (.alt 2 (.o 6 (.o 7 (.k [8] .fin))) (.o 6 (.o 2 (.o 7 (.k [8] .fin)))))) [] (⟨69,0,ab [(4,.ptr 0 0),(8,.ptr 3 0),(49,sL ay (l.Held++[(⟨txn,w_⟩:Hold)])),(50,.ptr 0 0)],[.var 35 (aD l),.var 3 [vI txn],.var 50 (aR w_),.var 35 [vN,vN]]⟩) (by kernel_rfl) ⟨go ?_,⟨⟨List.map ay [(⟨txn,w_⟩:Hold)],rfl,go ?_,⟨⟩⟩,⟨⟩⟩⟩ eF
 refine mF (clone_83 l.Held p1) ⟨⟨List.map ay [(⟨txn,w_⟩:Hold)],rfl,⟨rfl,rfl,by simp only [List.length_map];exact p2,List.map ay (l.Held++[(⟨txn,w_⟩:Hold)]),dk ay _ _ rfl rfl,go ?_⟩,⟨⟩⟩,⟨⟩⟩
 exact bl.trans (aK 4 rfl) (wF .rest (.s (.s (.f (.all rfl)))))
 refine mF (clone_83 l.Held p1) ⟨⟨rfl,rfl,by simp only [List.length_map];exact p2,List.map ay (l.Held++[(⟨txn,w_⟩:Hold)]),dk ay _ _ rfl rfl,go ?_⟩,⟨⟩⟩
 exact bl.trans (aK 5 rfl) (wF .rest (.s (.s (.f (.all rfl)))))
 refine ⟨_,(aA _ _).symm,go ?_⟩
 refine cC h rfl (fun c6 h=>eF) fun c6 h=>go ?_
 obtain ⟨p3,h⟩:=au h
 obtain ⟨p4,h⟩:=au h
 refine cp.many 10 (.k [0,1,3,4,5,6] (.alt 2 (.o 7 (.o 8 (.k [9] .fin))) (.o 7 (.o 2 (.o 8 (.k [9] .fin)))))) [] (⟨69,0,ab [(4,.ptr 0 0),(8,.ptr 3 0),(66,sL an (l.Queue++[(⟨txn,w_,until_⟩:Claim)])),(67,.ptr 0 1)],[.var 35 (aD l),.var 3 [vI txn],.var 50 (aR w_),.var 35 [vN,vN]]⟩) (by kernel_rfl) ⟨go ?_,⟨⟨List.map an [(⟨txn,w_,until_⟩:Claim)],rfl,go ?_,⟨⟩⟩,⟨⟩⟩⟩ eF
 refine mF (clone_84 l.Queue p3) ⟨⟨List.map an [(⟨txn,w_,until_⟩:Claim)],rfl,⟨rfl,rfl,by simp only [List.length_map];exact p4,List.map an (l.Queue++[(⟨txn,w_,until_⟩:Claim)]),dk an _ _ rfl rfl,go ?_⟩,⟨⟩⟩,⟨⟩⟩
 exact bl.trans (aK 4 rfl) (wF .rest (.s (.s (.f (.all rfl)))))
 refine mF (clone_84 l.Queue p3) ⟨⟨rfl,rfl,by simp only [List.length_map];exact p4,List.map an (l.Queue++[(⟨txn,w_,until_⟩:Claim)]),dk an _ _ rfl rfl,go ?_⟩,⟨⟩⟩
 exact bl.trans (aK 5 rfl) (wF .rest (.s (.s (.f (.all rfl)))))
def cd (l:(List Int)) (a1 a2 a3:Int) (a4:(List Int)):Option ((Int×Int×(List Int))⊕(Int×(List Int))):=
 if (decide (a3<((((((List.map (ax .i64) l).length:Nat):Int).toNat) - ((a1).toNat):Nat):Int))) then
 (aL (0≤a3∧a3<((((((List.map (ax .i64) l).length:Nat):Int).toNat) - ((a1).toNat):Nat):Int))<|
 aL (0≤(IntKind.i64.wrap (a3 - 1))∧(IntKind.i64.wrap (a3 - 1))<((((((List.map (ax .i64) l).length:Nat):Int).toNat) - ((a1).toNat):Nat):Int))<|
 (ix a4 ((((a1).toNat)+(a3).toNat:Nat):Int)).bind fun x1=>
 (ix a4 ((((a1).toNat)+((IntKind.i64.wrap (a3 - 1))).toNat:Nat):Int)).bind fun x2=>
 if (!(decide (x1=x2))) then
 (ix a4 a2).bind fun x3=>
 some ((IntKind.i64.wrap (a2+1)),(List.set a4 (a2).toNat x1))
 else
 some (a2,a4)).bind fun (y1:Int×(List Int))=>
 some (.inl (y1.1,(IntKind.i64.wrap (a3+1)),y1.2))
 else
 some (.inr (a2,a4))
def ce (l:(List Int)) (a1:Int):Option ((Int)⊕(((List Int))⊕(Unit))):=
 if (decide (a1<(l.length:Int))) then
 (ix l a1).bind fun x1=>
 (ix l (IntKind.i64.wrap (a1 - 1))).bind fun x2=>
 if (decide (x1=x2)) then
 aL (0<l.length)<|
 aL ((0:Int)≤a1∧a1≤(l.length:Int)∧(l.length:Int)≤(l.length:Int))<|
 (loop (fun (s1:Int×Int×(List Int))=>cd l a1 s1.1 s1.2.1 s1.2.2) (a1,(1:Int),l)).bind fun (y1:Int×(List Int))=>
 aL (0<y1.2.length)<|
 aL ((0:Int)≤y1.1∧y1.1≤(y1.2.length:Int)∧(y1.2.length:Int)≤(y1.2.length:Int))<|
 aL (0<(List.take ((y1.1).toNat) y1.2++List.replicate (((((List.map (ax .i64) y1.2).length:Nat):Int).toNat) - ((y1.1).toNat)) (0:Int)++List.drop ((((List.map (ax .i64) y1.2).length:Nat):Int).toNat) y1.2).length)<|
 aL ((0:Int)≤(0:Int)∧0≤y1.1∧y1.1≤((List.take ((y1.1).toNat) y1.2++List.replicate (((((List.map (ax .i64) y1.2).length:Nat):Int).toNat) - ((y1.1).toNat)) (0:Int)++List.drop ((((List.map (ax .i64) y1.2).length:Nat):Int).toNat) y1.2).length:Int))<|
 some (.inr (.inl (List.drop ((0:Int).toNat) (List.take ((y1.1).toNat) (List.take ((y1.1).toNat) y1.2++List.replicate (((((List.map (ax .i64) y1.2).length:Nat):Int).toNat) - ((y1.1).toNat)) (0:Int)++List.drop ((((List.map (ax .i64) y1.2).length:Nat):Int).toNat) y1.2)))))
 else
 some (.inl (IntKind.i64.wrap (a1+1)))
 else
 some (.inr (.inr ()))
def slices_Compact_int (l:(List Int)):Option ((List Int)):=
 if (decide ((l.length:Int)<2)) then some l else
 (loop (fun (s1:Int)=>ce l s1) (1:Int)).bind fun (y1:((List Int))⊕(Unit))=>
 match y1 with
 |(.inl v1)=>
  some v1
 |(.inr v2)=>
 some l
theorem slices_Compact_int_walk {l r} (h:slices_Compact_int l=some r):pH 212 [.row 3 1 (List.map (ax .i64) l)] [.row 0 ((List.map (ax .i64) l).length)] (sL (ax .i64) r) [.gone]:=by
 unfold slices_Compact_int at h
 refine pC0 Tryz.func212 rfl fun g=>go ?_
 refine ⟨rfl,(l.length:Int),by simp,go ?_⟩
 refine cC h rfl (fun c1 h=>go ?_) fun c1 h=>go ?_
 exact eP ⟨61,1,ab [(2,sL (ax .i64) l)],[.gone]⟩ (bl.trans (aK 0 rfl) (wF (.g .rest) (.f (.all rfl))))
 refine lQ h (fun s1=>⟨61,1,ab [(0,.row 0 ((List.map (ax .i64) l).length)),(3,vI s1)],[.row 3 1 (List.map (ax .i64) l)]⟩) (Sum.elim (aO .ret (fun v1=>⟨61,1,ab [(2,sL (ax .i64) v1)],[.gone]⟩)) (aO (.exit 0) (fun _=>⟨61,1,ab [(0,.row 0 ((List.map (ax .i64) l).length))],[.row 3 1 (List.map (ax .i64) l)]⟩))) wA ?_ <|bE (bO fun v1 _ h w=>go ?_)<|bO fun v2 _ h w=>wk w (go ?_)
 rintro y1 a1 v3 h r
 replace h:ce l a1=some v3:=h
 unfold ce at h
 refine go ?_
 refine ⟨rfl,(l.length:Int),by simp,go ?_⟩
 refine cC h rfl (fun c2 h=>go ?_) fun c2 h=>xE
 obtain ⟨x1,q1,h⟩:=bind_some h
 obtain ⟨x2,q2,h⟩:=bind_some h
 refine cp.many 10 (.k [0,1,2,4,5,6,7] (.alt 3 (.o 8 (.k [9] .fin)) (.o 8 (.o 3 (.k [9] .fin))))) [] (⟨61,1,ab [(0,.row 0 ((List.map (ax .i64) l).length)),(3,vI a1),(25,vB (decide (x1=x2)))],[.row 3 1 (List.map (ax .i64) l)]⟩) (by kernel_rfl) (go ?_) (go ?_)
 refine ⟨⟨rfl,(bX q1).1,by have:=bX q1;simp only [List.length_map,List.length_set,List.length_cons,List.length_nil] at*;omega⟩,?_⟩
 refine go ?_
 refine ⟨⟨rfl,(bX q2).1,by have:=bX q2;simp only [List.length_map,List.length_set,List.length_cons,List.length_nil] at*;omega⟩,?_⟩
 exact ⟨⟨rfl,_,al (ax .i64) (af q1).2,⟨rfl,_,al (ax .i64) (af q2).2,cA⟩,⟨⟩⟩,⟨⟨rfl,_,al (ax .i64) (af q2).2,⟨rfl,_,al (ax .i64) (af q1).2,cA⟩,⟨⟩⟩,⟨⟩⟩⟩
 refine cC h rfl (fun c3 h=>go ?_) fun c3 h=>cN
 obtain ⟨p1,h⟩:=au h
 refine ⟨⟨rfl,by have:=p1;simp only [List.length_map,List.length_append,List.length_take,List.length_drop,List.length_replicate,List.length_set] at*;omega⟩,?_⟩
 refine go ?_
 refine nD h fun p2 h=>⟨by have:=p2;simp only [List.length_map,List.length_append,List.length_take,List.length_drop,List.length_replicate,List.length_set] at*;omega,go ?_⟩
 refine lQ h (fun s2=>⟨61,1,ab [(0,.row 0 ((List.map (ax .i64) s2.2.2).length)),(3,vI s2.1),(4,.vw 0 ((List.map (ax .i64) s2.2.2).length) 1 ((a1).toNat) ((((List.map (ax .i64) l).length:Nat):Int).toNat)),(5,vI s2.2.1)],[.row 3 1 (List.map (ax .i64) s2.2.2)]⟩) (aO (.exit 2) (fun y2=>⟨61,1,ab [(0,.row 0 ((List.map (ax .i64) y2.2).length)),(3,vI y2.1)],[.row 3 1 (List.map (ax .i64) y2.2)]⟩)) wA ?_ <|bO fun y2 _ h w=>wk w (go ?_)
 rintro y2 ⟨a2,a3,a4⟩ v4 h r
 replace h:cd l a1 a2 a3 a4=some v4:=h
 unfold cd at h
 dsimp only
 refine go ?_
 refine ⟨rfl,((((((List.map (ax .i64) l).length:Nat):Int).toNat) - ((a1).toNat):Nat):Int),rfl,go ?_⟩
 refine cC h rfl (fun c4 h=>gN 1 ?_) fun c4 h=>xE
 refine k1 h (fun y3=>⟨61,1,ab [(0,.row 0 ((List.map (ax .i64) y3.2).length)),(3,vI y3.1),(4,.vw 0 ((List.map (ax .i64) y3.2).length) 1 ((a1).toNat) ((((List.map (ax .i64) l).length:Nat):Int).toNat)),(5,vI a3)],[.row 3 1 (List.map (ax .i64) y3.2)]⟩) (fun y3 h=>go ?_) fun y3 h=>cN
 obtain ⟨p3,h⟩:=au h
 obtain ⟨p4,h⟩:=au h
 obtain ⟨x3,q3,h⟩:=bind_some h
 obtain ⟨x4,q4,h⟩:=bind_some h
 refine cp.many 10 (.k [0,1,2,4,5,6,7] (.alt 3 (.o 8 (.k [9] .fin)) (.o 8 (.o 3 (.k [9] .fin))))) [] (⟨61,1,ab [(0,.row 0 ((List.map (ax .i64) a4).length)),(3,vI a2),(4,.vw 0 ((List.map (ax .i64) a4).length) 1 ((a1).toNat) ((((List.map (ax .i64) l).length:Nat):Int).toNat)),(5,vI a3),(44,vB (!(decide (x3=x4))))],[.row 3 1 (List.map (ax .i64) a4)]⟩) (by kernel_rfl) (go ?_) (go ?_)
 refine ⟨⟨rfl,p3.1,p3.2⟩,?_⟩
 refine go ?_
 refine ⟨⟨rfl,p4.1,p4.2⟩,?_⟩
 exact ⟨⟨rfl,_,al (ax .i64) (af q3).2,⟨rfl,_,al (ax .i64) (af q4).2,cA⟩,⟨⟩⟩,⟨⟨rfl,_,al (ax .i64) (af q4).2,⟨rfl,_,al (ax .i64) (af q3).2,cA⟩,⟨⟩⟩,⟨⟩⟩⟩
 refine cC h rfl (fun c5 h=>go ?_) fun c5 h=>cE
 refine ⟨⟨rfl,p3.1,p3.2⟩,?_⟩
 refine ⟨rfl,_,al (ax .i64) (af q3).2,go ?_⟩
 obtain ⟨x5,q5,h⟩:=bind_some h
 refine ⟨⟨rfl,(bX q5).1,by have:=bX q5;simp only [List.length_map,List.length_set,List.length_cons,List.length_nil] at*;omega⟩,?_⟩
 refine ⟨rfl,_,al (ax .i64) (af q5).2,Nat.le_of_ble_eq_true rfl,List.map (ax .i64) (List.set a4 (a2).toNat x3),map_set (ax .i64) _ _ _ rfl,go ?_⟩
 cases h
 exact ⟨rfl,wI⟩
 obtain ⟨p5,h⟩:=au h
 refine ⟨⟨rfl,by have:=p5;simp only [List.length_map,List.length_append,List.length_take,List.length_drop,List.length_replicate,List.length_set] at*;omega⟩,?_⟩
 refine go ?_
 refine nD h fun p6 h=>⟨by have:=p6;simp only [List.length_map,List.length_append,List.length_take,List.length_drop,List.length_replicate,List.length_set] at*;omega,rfl,List.map (ax .i64) (List.take ((y2.1).toNat) y2.2++List.replicate (((((List.map (ax .i64) y2.2).length:Nat):Int).toNat) - ((y2.1).toNat)) (0:Int)++List.drop ((((List.map (ax .i64) y2.2).length:Nat):Int).toNat) y2.2),by rw [List.map_append,List.map_append,List.map_take,List.map_drop,List.map_replicate];rfl,go ?_⟩
 obtain ⟨p7,h⟩:=au h
 refine ⟨⟨by first|(simp;done)|(simp only [List.length_map,List.length_append,List.length_take,List.length_drop,List.length_replicate,List.length_set,List.length_mergeSort];omega),by have:=p7;simp only [List.length_map,List.length_append,List.length_take,List.length_drop,List.length_replicate,List.length_set] at*;omega⟩,?_⟩
 refine go ?_
 refine nD h fun p8 h=>⟨by have:=p8;simp only [List.length_map,List.length_append,List.length_take,List.length_drop,List.length_replicate,List.length_set] at*;omega,go ?_⟩
 cases h
 obtain rfl:=r _ rfl
 exact ⟨rfl,bl.trans (aK 0 rfl) (wF (.g .rest) (.cons (.one (.frzvw rfl (by first|(simp;done)|(simp only [List.length_map,List.length_append,List.length_take,List.length_drop,List.length_replicate,List.length_set,List.length_mergeSort];omega)) (by rw [List.map_drop,List.map_take]))) (.all rfl)))⟩
 exact eP ⟨61,1,ab [(2,sL (ax .i64) v1)],[.gone]⟩ (bl.trans w wA)
 exact eP ⟨61,1,ab [(2,sL (ax .i64) l)],[.gone]⟩ (bl.trans (aK 0 rfl) (wF (.g .rest) (.f (.all rfl))))
def ring_After_l2 (l:Locks) (txn a1:Int) (a2:(List Int)):Option ((Int×(List Int))⊕((List Int))):=
 if (decide (a1<(l.Queue.length:Int))) then
 ((ix l.Queue a1).bind fun x1=>
 if (decide (x1.Txn=txn)) then
 (lock_Blockers l txn x1.W a1).bind fun y1=>
 aL ((a2.length+y1.length)*8≤140737488355328)<|
 some (a2++y1)
 else
 some a2).bind fun (y2:(List Int))=>
 some (.inl ((IntKind.i64.wrap (a1+1)),y2))
 else
 some (.inr a2)
def ring_After (l:Locks) (txn:Int):Option ((List Int)):=
 (loop (fun (s1:Int×(List Int))=>ring_After_l2 l txn s1.1 s1.2) ((0:Int),([]:(List Int)))).bind fun (y1:(List Int))=>
 aL (y1.length<1073741824)<|
 (slices_Compact_int (List.mergeSort y1 leI)).bind fun y2=>
 some y2
theorem ring_After_walk {l txn r} (h:ring_After l txn=some r):pP 186 [.agg (aD l),vI txn] (sL (ax .i64) r):=by
 unfold ring_After at h
 refine pW (G:=⟨tys,[180,212],[],[]⟩) ct mixed Tryz.func186 rfl fun g=>go ?_
 refine ⟨_,(aA _ _).symm,go ?_⟩
 refine lQ h (fun s1=>⟨33,0,ab [(1,vI txn),(2,.ptr 0 0),(5,.row 1 ((List.map (ax .i64) s1.2).length)),(9,sL an l.Queue),(10,vI (l.Queue.length:Int)),(11,vI s1.1)],[.var 35 (aD l),.row 3 1 (List.map (ax .i64) s1.2)]⟩) (aO (.exit 0) (fun y1=>⟨33,0,ab [(5,.row 1 ((List.map (ax .i64) y1).length))],[.gone,.row 3 1 (List.map (ax .i64) y1)]⟩)) (bl.trans (weak_nil 5 3 1 rfl) wI) ?_ <|bO fun y1 _ h w=>wk w (go ?_)
 rintro y1 ⟨a1,a2⟩ v1 h r
 replace h:ring_After_l2 l txn a1 a2=some v1:=h
 unfold ring_After_l2 at h
 dsimp only
 refine go ?_
 refine cC h rfl (fun c1 h=>gN 1 ?_) fun c1 h=>go ?_
 refine k1 h (fun y2=>⟨33,0,ab [(1,vI txn),(2,.ptr 0 0),(5,.row 1 ((List.map (ax .i64) y2).length)),(9,sL an l.Queue),(10,vI (l.Queue.length:Int)),(11,vI a1)],[.var 35 (aD l),.row 3 1 (List.map (ax .i64) y2)]⟩) (fun y2 h=>go ?_) fun y2 h=>cN
 refine bD h fun x1 q1 h=>⟨(af q1).1,_,al an (af q1).2,rfl,go ?_⟩
 refine cC h rfl (fun c2 h=>go ?_) fun c2 h=>cE
 refine cP h lock_Blockers_walk fun y3 h=>⟨rfl,map_len (f:=(ax .i64)) (n:=1) (fun _=>rfl) _,go ?_⟩
 refine nD h fun p1 h=>⟨by simp only [List.length_map];exact p1,List.map (ax .i64) (a2++y3),dk (ax .i64) _ _ rfl rfl,cE⟩
 cases h
 obtain rfl:=r _ rfl
 exact ⟨rfl,(wF (.g .rest) (.all rfl))⟩
 obtain ⟨p2,h⟩:=au h
 refine sort_180 rfl (by simp) p2 (gN 1 ?_)
 refine dz.weak (show bl _ ⟨33,0,ab [(5,.row 1 ((List.map (ax .i64) (List.mergeSort y1 leI)).length)),(29,.row 1 ((List.map (ax .i64) (List.mergeSort y1 leI)).length)),(30,.tup [])],[.gone,.row 3 1 (List.map (ax .i64) (List.mergeSort y1 leI))]⟩ from wI) (go ?_)
 exact cU h slices_Compact_int_walk [1] fun y4 h=>eF
def ring_Reach_1 (t:Int) (v:Locks):Option ((List Int)):=
 (ring_After v t).bind fun y1=>
 some y1
theorem ring_Reach_1_walk {t v r} (h:ring_Reach_1 t v=some r):pH 185 [.var 35 (aD v)] [vI t,.ptr 0 0] (sL (ax .i64) r) [.var 35 (aD v)]:=by
 unfold ring_Reach_1 at h
 refine pC0 Tryz.func185 rfl fun g=>go ?_
 refine cP h ring_After_walk fun y1 h=>go ?_
 exact eP ⟨7,1,ab [(3,sL (ax .i64) y1)],[.var 35 (aD v)]⟩ wA
def ring_Reach_l91 (a1:(List Int)) (a2:Int) (a3 a4:(List Int)):Option ((Int×(List Int)×(List Int))⊕((List Int)×(List Int))):=
 if (decide (a2<(a1.length:Int))) then
 ((ix a1 a2).bind fun x1=>
 aL (-9223372036854775808≤x1∧x1≤9223372036854775807)<|
 if (!(decide (x1∈a3))) then
 aL ((-9223372036854775808≤x1∧x1≤9223372036854775807)∧a3.length<1073741824)<|
 aL ((-9223372036854775808≤x1∧x1≤9223372036854775807)∧a4.length<1073741824)<|
 some ((insI a3 x1),(insI a4 x1))
 else
 some (a3,a4)).bind fun (y1:(List Int)×(List Int))=>
 some (.inl ((IntKind.i64.wrap (a2+1)),y1.1,y1.2))
 else
 some (.inr (a3,a4))
def ring_Reach_l92 (l:Locks) (y1:(List Int)×(List Int)) (a1:Int) (a2 a3:(List Int)):Option ((Int×(List Int)×(List Int))⊕((List Int)×(List Int))):=
 if (decide (a1<((List.mergeSort y1.2 leI).length:Int))) then
 (ix (List.mergeSort y1.2 leI) a1).bind fun x1=>
 aL (-9223372036854775808≤x1∧x1≤9223372036854775807)<|
 (ring_Reach_1 x1 l).bind fun y2=>
 aL ((a3.length+y2.length)*8≤140737488355328)<|
 some (.inl ((IntKind.i64.wrap (a1+1)),(delI a2 x1),(a3++y2)))
 else
 some (.inr (a2,a3))
def ring_Reach_l97 (a1:(List Int)) (a2:Int) (a3 a4:(List Int)):Option ((Int×(List Int)×(List Int))⊕((List Int)×(List Int))):=
 if (decide (a2<(a1.length:Int))) then
 ((ix a1 a2).bind fun x1=>
 aL (-9223372036854775808≤x1∧x1≤9223372036854775807)<|
 if (!(decide (x1∈a3))) then
 aL ((-9223372036854775808≤x1∧x1≤9223372036854775807)∧a3.length<1073741824)<|
 aL ((-9223372036854775808≤x1∧x1≤9223372036854775807)∧a4.length<1073741824)<|
 some ((insI a3 x1),(insI a4 x1))
 else
 some (a3,a4)).bind fun (y1:(List Int)×(List Int))=>
 some (.inl ((IntKind.i64.wrap (a2+1)),y1.1,y1.2))
 else
 some (.inr (a3,a4))
def ring_Reach_l98 (l:Locks) (y1:(List Int)×(List Int)) (a1:Int) (a2 a3:(List Int)):Option ((Int×(List Int)×(List Int))⊕((List Int)×(List Int))):=
 if (decide (a1<((List.mergeSort y1.2 leI).length:Int))) then
 (ix (List.mergeSort y1.2 leI) a1).bind fun x1=>
 aL (-9223372036854775808≤x1∧x1≤9223372036854775807)<|
 (ring_Reach_1 x1 l).bind fun y2=>
 aL ((a3.length+y2.length)*8≤140737488355328)<|
 some (.inl ((IntKind.i64.wrap (a1+1)),(delI a2 x1),(a3++y2)))
 else
 some (.inr (a2,a3))
def cq (l:Locks) (a1:Int) (a2 a3 a4 a5:(List Int)):Option ((Int×(List Int)×(List Int)×(List Int)×(List Int))⊕((List Int))):=
 (aL (0≤a1∧a1<2)<|
 if (decide (a1=0)) then
 if (decide ((a4.length:Int)>0)) then some (.inl ()) else
 some (.inr (.inr ()))
 else
 if (decide ((a5.length:Int)>0)) then some (.inr (.inl ())) else
 some (.inr (.inr ()))).bind fun (y1:(Unit)⊕(Unit)⊕(Unit))=>
 match y1 with
 |(.inl v1)=>
  (loop (fun (s1:Int×(List Int)×(List Int))=>ring_Reach_l91 a4 s1.1 s1.2.1 s1.2.2) ((0:Int),a2,a3)).bind fun (y2:(List Int)×(List Int))=>
  aL (y2.2.length<1073741824)<|
  (loop (fun (s2:Int×(List Int)×(List Int))=>ring_Reach_l92 l y2 s2.1 s2.2.1 s2.2.2) ((0:Int),y2.2,([]:(List Int)))).bind fun (y3:(List Int)×(List Int))=>
  some (.inl (1,y2.1,y3.1,a4,y3.2))
 |(.inr (.inl v2))=>
  (loop (fun (s3:Int×(List Int)×(List Int))=>ring_Reach_l97 a5 s3.1 s3.2.1 s3.2.2) ((0:Int),a2,a3)).bind fun (y4:(List Int)×(List Int))=>
  aL (y4.2.length<1073741824)<|
  (loop (fun (s4:Int×(List Int)×(List Int))=>ring_Reach_l98 l y4 s4.1 s4.2.1 s4.2.2) ((0:Int),y4.2,([]:(List Int)))).bind fun (y5:(List Int)×(List Int))=>
  some (.inl (0,y4.1,y5.1,y5.2,a5))
 |(.inr (.inr v3))=>
 some (.inr a2)
def ring_Reach (l:Locks) (txn:Int):Option ((List Int)):=
 (ring_Reach_1 txn l).bind fun y1=>
 (loop (fun (s1:Int×(List Int)×(List Int)×(List Int)×(List Int))=>cq l s1.1 s1.2.1 s1.2.2.1 s1.2.2.2.1 s1.2.2.2.2) ((0:Int),([]:List Int),([]:List Int),y1,([]:(List Int)))).bind fun (y2:(List Int))=>
 aL (y2.length<1073741824)<|
 some (List.mergeSort y2 leI)
theorem ring_Reach_walk {l txn r} (h:ring_Reach l txn=some r):FreshP Tryz.prog 141 [.agg (aD l),vI txn] 3 1 (fun ys=>ys=List.map (ax .i64) r):=by
 unfold ring_Reach at h
 refine pE (G:=⟨tys,[132,133,185],[],[]⟩) ct mixed Tryz.func141 rfl fun g=>go ?_
 refine OpP.make 3 4 rfl rfl (go ?_)
 refine OpP.make 3 4 rfl rfl (go ?_)
 refine cU h ring_Reach_1_walk [0] fun y1 h=>go ?_
 refine lQ h (fun s1=>⟨73,0,ab [(5,.fn (.func 185) [] [.ptr 0 0]),(6,.mp 1),(7,.mp 2),(8,.ptr 3 0),(9,vI s1.1)],[.var 35 (aD l),.ext (mapI Tryz.prog 3 4 s1.2.1),.ext (mapI Tryz.prog 3 4 s1.2.2.1),.var 286 [sL (ax .i64) s1.2.2.2.1,sL (ax .i64) s1.2.2.2.2]]⟩) (aO (.exit 0) (fun y2=>⟨73,0,ab [(6,.mp 1)],[.gone,.ext (mapI Tryz.prog 3 4 y2)]⟩)) (wF (.s (.s (.s (.cons (.var (.cons (.same rfl) (.cons (.nil) (.nil)))) .rest)))) (.all rfl)) ?_ <|bO fun y2 _ h w=>wk w (go ?_)
 rintro y2 ⟨a1,a2,a3,a4,a5⟩ v1 h r
 replace h:cq l a1 a2 a3 a4 a5=some v1:=h
 unfold cq at h
 dsimp only
 refine kS h (Sum.elim (aO .normal (fun _=>⟨73,0,ab [(5,.fn (.func 185) [] [.ptr 0 0]),(6,.mp 1),(7,.mp 2),(8,.ptr 3 0),(9,vI 0)],[.var 35 (aD l),.ext (mapI Tryz.prog 3 4 a2),.ext (mapI Tryz.prog 3 4 a3),.var 286 [sL (ax .i64) a4,sL (ax .i64) a5]]⟩)) (Sum.elim (aO .normal (fun _=>⟨73,0,ab [(5,.fn (.func 185) [] [.ptr 0 0]),(6,.mp 1),(7,.mp 2),(8,.ptr 3 0),(9,vI 1)],[.var 35 (aD l),.ext (mapI Tryz.prog 3 4 a2),.ext (mapI Tryz.prog 3 4 a3),.var 286 [sL (ax .i64) a4,sL (ax .i64) a5]]⟩)) (aO (.exit 0) (fun _=>⟨73,0,ab [(6,.mp 1)],[.gone,.ext (mapI Tryz.prog 3 4 a2)]⟩)))) (fun y3 h=>go ?_)<|bE (bO fun v2 _ h w=>wk w (go ?_)) (bE (bO fun v3 _ h w=>wk w (go ?_))<|bO fun v4 _ h w=>xEw)
 obtain ⟨p1,h⟩:=au h
 by_cases c1:(decide (a1=0))=true
 replace h:=if_t c1 h
 obtain rfl:a1=0:=by simpa using c1
 refine ⟨by decide,_,(aA _ _).symm,go ?_⟩
 refine cC h rfl (fun c2 h=>cE) fun c2 h=>go ?_
 cases h
 exact ⟨rfl,(wF (.g .rest) (.all rfl))⟩
 replace c1:=Bool.eq_false_iff.2 c1
 replace h:=if_f c1 h
 obtain rfl:a1=1:=by have:=c1;simp at*;omega
 refine ⟨by decide,_,(aA _ _).symm,go ?_⟩
 refine cC h rfl (fun c3 h=>cE) fun c3 h=>go ?_
 cases h
 exact ⟨rfl,(wF (.g .rest) (.all rfl))⟩
 refine ⟨by decide,_,(aA _ _).symm,go ?_⟩
 refine lQ h (fun s2=>⟨73,0,ab [(5,.fn (.func 185) [] [.ptr 0 0]),(6,.mp 1),(7,.mp 2),(8,.ptr 3 0),(9,vI 0),(30,sL (ax .i64) a4),(31,vI (a4.length:Int)),(32,vI s2.1)],[.var 35 (aD l),.ext (mapI Tryz.prog 3 4 s2.2.1),.ext (mapI Tryz.prog 3 4 s2.2.2),.var 286 [sL (ax .i64) a4,sL (ax .i64) a5]]⟩) (aO (.exit 2) (fun y4=>⟨73,0,ab [(5,.fn (.func 185) [] [.ptr 0 0]),(6,.mp 1),(7,.mp 2),(8,.ptr 3 0),(9,vI 0)],[.var 35 (aD l),.ext (mapI Tryz.prog 3 4 y4.1),.ext (mapI Tryz.prog 3 4 y4.2),.var 286 [sL (ax .i64) a4,sL (ax .i64) a5]]⟩)) wA ?_ <|bO fun y4 _ h w=>wk w (go ?_)
 rintro y4 ⟨a6,a7,a8⟩ v5 h r
 replace h:ring_Reach_l91 a4 a6 a7 a8=some v5:=h
 unfold ring_Reach_l91 at h
 dsimp only
 refine go ?_
 refine cC h rfl (fun c4 h=>gN 1 ?_) fun c4 h=>xE
 refine k1 h (fun y5=>⟨73,0,ab [(5,.fn (.func 185) [] [.ptr 0 0]),(6,.mp 1),(7,.mp 2),(8,.ptr 3 0),(9,vI 0),(30,sL (ax .i64) a4),(31,vI (a4.length:Int)),(32,vI a6)],[.var 35 (aD l),.ext (mapI Tryz.prog 3 4 y5.1),.ext (mapI Tryz.prog 3 4 y5.2),.var 286 [sL (ax .i64) a4,sL (ax .i64) a5]]⟩) (fun y5 h=>go ?_) fun y5 h=>cN
 refine bD h fun x1 q1 h=>⟨(af q1).1,_,al (ax .i64) (af q1).2,rfl,go ?_⟩
 obtain ⟨p2,h⟩:=au h
 refine OpP.get rfl rfl rfl rfl rfl Tryz.underlying229 Tryz.underlying3 Tryz.underlying4 Tryz.zeroValue4 p2 (go ?_)
 refine cC h rfl (fun c5 h=>go ?_) fun c5 h=>cE
 obtain ⟨p3,h⟩:=au h
 refine OpP.set rfl rfl rfl rfl rfl rfl Tryz.underlying229 Tryz.underlying3 Tryz.underlying4 p3 (go ?_)
 obtain ⟨p4,h⟩:=au h
 exact OpP.set rfl rfl rfl rfl rfl rfl Tryz.underlying229 Tryz.underlying3 Tryz.underlying4 p4 cE
 refine ⟨by decide,go ?_⟩
 refine keys_133 (go ?_)
 obtain ⟨p5,h⟩:=au h
 refine sorted_132 rfl rfl p5 ⟨by first|(simp;done)|(simp only [List.length_map,List.length_append,List.length_take,List.length_drop,List.length_replicate,List.length_set,List.length_mergeSort];omega),((List.mergeSort y4.2 leI).length:Int),by simp,go ?_⟩
 refine lQ h (fun s3=>⟨73,0,ab [(5,.fn (.func 185) [] [.ptr 0 0]),(6,.mp 1),(7,.mp 2),(8,.ptr 3 0),(9,vI 0),(50,.row 5 ((List.map (ax .i64) (List.mergeSort y4.2 leI)).length)),(51,vI ((List.mergeSort y4.2 leI).length:Int)),(52,vI s3.1)],[.var 35 (aD l),.ext (mapI Tryz.prog 3 4 y4.1),.ext (mapI Tryz.prog 3 4 s3.2.1),.var 286 [sL (ax .i64) a4,.row 6 ((List.map (ax .i64) s3.2.2).length)],.gone,.row 3 1 (List.map (ax .i64) (List.mergeSort y4.2 leI)),.row 3 1 (List.map (ax .i64) s3.2.2)]⟩) (aO (.exit 4) (fun y6=>⟨73,0,ab [(5,.fn (.func 185) [] [.ptr 0 0]),(6,.mp 1),(7,.mp 2),(8,.ptr 3 0),(9,vI 0)],[.var 35 (aD l),.ext (mapI Tryz.prog 3 4 y4.1),.ext (mapI Tryz.prog 3 4 y6.1),.var 286 [sL (ax .i64) a4,.row 6 ((List.map (ax .i64) y6.2).length)],.gone,.gone,.row 3 1 (List.map (ax .i64) y6.2)]⟩)) (bl.trans (dF 3 1 3 1 rfl rfl) (wF (.s (.s (.s (.cons (.var (.cons (.same rfl) (.cons (.same (show (.row 6 0:AV)=(.row 6 ((List.map (ax .i64) []).length):AV) from congrArg (AV.row 6) (by simp))) (.nil)))) (.g .rest))))) (.s (.s (.s (.s (.s (.q (.all rfl))))))))) ?_ <|bO fun y6 _ h w=>wk w (go ?_)
 rintro y6 ⟨a9,a10,a11⟩ v6 h r
 replace h:ring_Reach_l92 l y4 a9 a10 a11=some v6:=h
 unfold ring_Reach_l92 at h
 dsimp only
 refine go ?_
 refine cC h rfl (fun c6 h=>go ?_) fun c6 h=>go ?_
 obtain ⟨x2,q2,h⟩:=bind_some h
 refine ⟨⟨rfl,(bX q2).1,by have:=bX q2;simp only [List.length_map,List.length_set,List.length_cons,List.length_nil] at*;omega⟩,?_⟩
 refine ⟨rfl,_,al (ax .i64) (af q2).2,go ?_⟩
 obtain ⟨p6,h⟩:=au h
 refine OpP.del rfl rfl rfl rfl rfl Tryz.underlying229 Tryz.underlying3 Tryz.underlying4 p6 (go ?_)
 refine cp.one 11 (.k [0,1,2,3,4,5,6,7] (.o 8 (.o 9 (.k [10] .fin)))) [0] (by kernel_rfl) ⟨by decide,go ?_,⟨⟩⟩
 refine cU h ring_Reach_1_walk [0] fun y7 h=>⟨⟨rfl,map_len (f:=(ax .i64)) (n:=1) (fun _=>rfl) _,go ?_⟩,⟨⟩⟩
 refine nD h fun p7 h=>⟨by simp only [List.length_map];exact p7,List.map (ax .i64) (a11++y7),dk (ax .i64) _ _ rfl rfl,by decide,cN⟩
 cases h
 obtain rfl:=r _ rfl
 exact ⟨rfl,(wF (.s (.s (.s (.s (.s (.g .rest)))))) (.all rfl))⟩
 cases h
 exact ⟨_,rfl,bl.trans (aK 6 rfl) (wF (.s (.s (.s (.cons (.var (.cons (.same rfl) (.cons (.frz rfl (rfl)) (.nil)))) .rest)))) (.all rfl))⟩
 refine ⟨by decide,_,(aA _ _).symm,go ?_⟩
 refine lQ h (fun s4=>⟨73,0,ab [(5,.fn (.func 185) [] [.ptr 0 0]),(6,.mp 1),(7,.mp 2),(8,.ptr 3 0),(9,vI 1),(30,sL (ax .i64) a5),(31,vI (a5.length:Int)),(32,vI s4.1)],[.var 35 (aD l),.ext (mapI Tryz.prog 3 4 s4.2.1),.ext (mapI Tryz.prog 3 4 s4.2.2),.var 286 [sL (ax .i64) a4,sL (ax .i64) a5]]⟩) (aO (.exit 2) (fun y8=>⟨73,0,ab [(5,.fn (.func 185) [] [.ptr 0 0]),(6,.mp 1),(7,.mp 2),(8,.ptr 3 0),(9,vI 1)],[.var 35 (aD l),.ext (mapI Tryz.prog 3 4 y8.1),.ext (mapI Tryz.prog 3 4 y8.2),.var 286 [sL (ax .i64) a4,sL (ax .i64) a5]]⟩)) wA ?_ <|bO fun y8 _ h w=>wk w (go ?_)
 rintro y8 ⟨a12,a13,a14⟩ v7 h r
 replace h:ring_Reach_l97 a5 a12 a13 a14=some v7:=h
 unfold ring_Reach_l97 at h
 dsimp only
 refine go ?_
 refine cC h rfl (fun c7 h=>gN 1 ?_) fun c7 h=>xE
 refine k1 h (fun y9=>⟨73,0,ab [(5,.fn (.func 185) [] [.ptr 0 0]),(6,.mp 1),(7,.mp 2),(8,.ptr 3 0),(9,vI 1),(30,sL (ax .i64) a5),(31,vI (a5.length:Int)),(32,vI a12)],[.var 35 (aD l),.ext (mapI Tryz.prog 3 4 y9.1),.ext (mapI Tryz.prog 3 4 y9.2),.var 286 [sL (ax .i64) a4,sL (ax .i64) a5]]⟩) (fun y9 h=>go ?_) fun y9 h=>cN
 refine bD h fun x3 q3 h=>⟨(af q3).1,_,al (ax .i64) (af q3).2,rfl,go ?_⟩
 obtain ⟨p8,h⟩:=au h
 refine OpP.get rfl rfl rfl rfl rfl Tryz.underlying229 Tryz.underlying3 Tryz.underlying4 Tryz.zeroValue4 p8 (go ?_)
 refine cC h rfl (fun c8 h=>go ?_) fun c8 h=>cE
 obtain ⟨p9,h⟩:=au h
 refine OpP.set rfl rfl rfl rfl rfl rfl Tryz.underlying229 Tryz.underlying3 Tryz.underlying4 p9 (go ?_)
 obtain ⟨p10,h⟩:=au h
 exact OpP.set rfl rfl rfl rfl rfl rfl Tryz.underlying229 Tryz.underlying3 Tryz.underlying4 p10 cE
 refine ⟨by decide,go ?_⟩
 refine keys_133 (go ?_)
 obtain ⟨p11,h⟩:=au h
 refine sorted_132 rfl rfl p11 ⟨by first|(simp;done)|(simp only [List.length_map,List.length_append,List.length_take,List.length_drop,List.length_replicate,List.length_set,List.length_mergeSort];omega),((List.mergeSort y8.2 leI).length:Int),by simp,go ?_⟩
 refine lQ h (fun s5=>⟨73,0,ab [(5,.fn (.func 185) [] [.ptr 0 0]),(6,.mp 1),(7,.mp 2),(8,.ptr 3 0),(9,vI 1),(50,.row 5 ((List.map (ax .i64) (List.mergeSort y8.2 leI)).length)),(51,vI ((List.mergeSort y8.2 leI).length:Int)),(52,vI s5.1)],[.var 35 (aD l),.ext (mapI Tryz.prog 3 4 y8.1),.ext (mapI Tryz.prog 3 4 s5.2.1),.var 286 [.row 6 ((List.map (ax .i64) s5.2.2).length),sL (ax .i64) a5],.gone,.row 3 1 (List.map (ax .i64) (List.mergeSort y8.2 leI)),.row 3 1 (List.map (ax .i64) s5.2.2)]⟩) (aO (.exit 4) (fun y10=>⟨73,0,ab [(5,.fn (.func 185) [] [.ptr 0 0]),(6,.mp 1),(7,.mp 2),(8,.ptr 3 0),(9,vI 1)],[.var 35 (aD l),.ext (mapI Tryz.prog 3 4 y8.1),.ext (mapI Tryz.prog 3 4 y10.1),.var 286 [.row 6 ((List.map (ax .i64) y10.2).length),sL (ax .i64) a5],.gone,.gone,.row 3 1 (List.map (ax .i64) y10.2)]⟩)) (bl.trans (dF 3 0 3 1 rfl rfl) (wF (.s (.s (.s (.cons (.var (.cons (.same (show (.row 6 0:AV)=(.row 6 ((List.map (ax .i64) []).length):AV) from congrArg (AV.row 6) (by simp))) (.cons (.same rfl) (.nil)))) (.g .rest))))) (.s (.s (.s (.s (.s (.q (.all rfl))))))))) ?_ <|bO fun y10 _ h w=>wk w (go ?_)
 rintro y10 ⟨a15,a16,a17⟩ v8 h r
 replace h:ring_Reach_l98 l y8 a15 a16 a17=some v8:=h
 unfold ring_Reach_l98 at h
 dsimp only
 refine go ?_
 refine cC h rfl (fun c9 h=>go ?_) fun c9 h=>go ?_
 obtain ⟨x4,q4,h⟩:=bind_some h
 refine ⟨⟨rfl,(bX q4).1,by have:=bX q4;simp only [List.length_map,List.length_set,List.length_cons,List.length_nil] at*;omega⟩,?_⟩
 refine ⟨rfl,_,al (ax .i64) (af q4).2,go ?_⟩
 obtain ⟨p12,h⟩:=au h
 refine OpP.del rfl rfl rfl rfl rfl Tryz.underlying229 Tryz.underlying3 Tryz.underlying4 p12 (go ?_)
 refine cp.one 11 (.k [0,1,2,3,4,5,6,7] (.o 8 (.o 9 (.k [10] .fin)))) [0] (by kernel_rfl) ⟨by decide,go ?_,⟨⟩⟩
 refine cU h ring_Reach_1_walk [0] fun y11 h=>⟨⟨rfl,map_len (f:=(ax .i64)) (n:=1) (fun _=>rfl) _,go ?_⟩,⟨⟩⟩
 refine nD h fun p13 h=>⟨by simp only [List.length_map];exact p13,List.map (ax .i64) (a17++y11),dk (ax .i64) _ _ rfl rfl,by decide,cN⟩
 cases h
 obtain rfl:=r _ rfl
 exact ⟨rfl,(wF (.s (.s (.s (.s (.s (.g .rest)))))) (.all rfl))⟩
 cases h
 exact ⟨_,rfl,bl.trans (aK 6 rfl) (wF (.s (.s (.s (.cons (.var (.cons (.frz rfl (rfl)) (.cons (.same rfl) (.nil)))) .rest)))) (.all rfl))⟩
 refine keys_133 (go ?_)
 obtain ⟨p14,h⟩:=au h
 refine sorted_132 rfl rfl p14 (go ?_)
 refine dt ⟨by first|(simp;done)|(simp only [List.length_map,List.length_append,List.length_take,List.length_drop,List.length_replicate,List.length_set,List.length_mergeSort];omega),go ?_⟩
 cases h
 rfl
def slices_Index_int_l2 (s:(List Int)) (v a1:Int):Option ((Int)⊕((Int)⊕(Unit))):=
 if (decide (a1<(s.length:Int))) then
 (ix s a1).bind fun x1=>
 if (decide (v=x1)) then some (.inr (.inl a1)) else
 some (.inl (IntKind.i64.wrap (a1+1)))
 else
 some (.inr (.inr ()))
def slices_Index_int (s:(List Int)) (v:Int):Option (Int):=
 (loop (fun (s1:Int)=>slices_Index_int_l2 s v s1) (0:Int)).bind fun (y1:(Int)⊕(Unit))=>
 match y1 with
 |(.inl v1)=>
  some v1
 |(.inr v2)=>
 some ((-1):Int)
theorem slices_Index_int_walk {s v r} (h:slices_Index_int s v=some r):pP 187 [sL (ax .i64) s,vI v] (vI r):=by
 unfold slices_Index_int at h
 refine pW0 Tryz.func187 rfl fun g=>go ?_
 refine ⟨_,(aA _ _).symm,go ?_⟩
 refine lQ h (fun s1=>⟨19,0,ab [(0,sL (ax .i64) s),(1,vI v),(7,vI (s.length:Int)),(8,vI s1)],[]⟩) (Sum.elim (aO .ret (fun v1=>⟨19,0,ab [(4,vI v1)],[]⟩)) (aO (.exit 0) (fun _=>⟨19,0,ab [],[]⟩))) wA ?_ <|bE (bO fun v1 _ h w=>eFw)<|bO fun v2 _ h w=>wk w eF
 rintro y1 a1 v3 h r
 replace h:slices_Index_int_l2 s v a1=some v3:=h
 unfold slices_Index_int_l2 at h
 refine go ?_
 refine cC h rfl (fun c1 h=>go ?_) fun c1 h=>xE
 refine bD h fun x1 q1 h=>⟨(af q1).1,_,al (ax .i64) (af q1).2,rfl,go ?_⟩
 exact cC h rfl (fun c2 h=>xE) fun c2 h=>cN
def slices_Contains_int (s:(List Int)) (v:Int):Option (Bool):=
 (slices_Index_int s v).bind fun y1=>
 some (decide (y1≥0))
theorem slices_Contains_int_walk {s v r} (h:slices_Contains_int s v=some r):pP 142 [sL (ax .i64) s,vI v] (vB r):=by
 unfold slices_Contains_int at h
 refine pW0 Tryz.func142 rfl fun g=>go ?_
 exact cP h slices_Index_int_walk fun y1 h=>eF
def ring_Ring_1 (t:Int) (v:Locks) (v1:Int):Option (Bool):=
 (ring_Reach v t).bind fun y1=>
 (slices_Contains_int y1 v1).bind fun y2=>
 some (!y2)
theorem ring_Ring_1_walk {t v v1 r} (h:ring_Ring_1 t v v1=some r):pH 144 [.var 35 (aD v),.var 3 [vI v1]] [vI t,.ptr 0 0,.ptr 1 0] (vB r) [.var 35 (aD v),.var 3 [vI v1]]:=by
 unfold ring_Ring_1 at h
 refine pC (G:=⟨tys,[],[(141,3,1)],[]⟩) ct mixed Tryz.func144 rfl fun g=>go ?_
 refine cp.one 7 (.k [0,1,3] (.o 2 (.o 4 (.k [5,6] .fin)))) [] (by kernel_rfl) ⟨go ?_,⟨⟩⟩
 refine cF h ring_Reach_walk fun y1 h=>⟨⟨rfl,go ?_⟩,⟨⟩⟩
 refine cP h slices_Contains_int_walk fun y2 h=>go ?_
 exact eP ⟨11,2,ab [(4,vB (!y2))],[.var 35 (aD v),.var 3 [vI v1]]⟩ wA
def bf (l:(List Int)) (v:Locks) (v1 a1:Int):Option ((Int)⊕((Int)⊕(Unit))):=
 if (decide (a1<(l.length:Int))) then
 (ix l a1).bind fun x1=>
 (ring_Ring_1 x1 v v1).bind fun y1=>
 if y1 then some (.inr (.inl a1)) else
 some (.inl (IntKind.i64.wrap (a1+1)))
 else
 some (.inr (.inr ()))
def cQ (l:(List Int)) (v:Locks) (v1:Int):Option (Int):=
 (loop (fun (s1:Int)=>bf l v v1 s1) (0:Int)).bind fun (y1:(Int)⊕(Unit))=>
 match y1 with
 |(.inl v3)=>
  some v3
 |(.inr v4)=>
 some (-1)
theorem slices_IndexFunc_int__ring_Ring_1_walk {l v v1 r} (h:cQ l v v1=some r):pH 188 [.row 3 1 (List.map (ax .i64) l),.var 35 (aD v),.var 3 [vI v1]] [.row 0 ((List.map (ax .i64) l).length),.fn (.func 144) [] [.ptr 1 0,.ptr 2 0]] (vI r) [.row 3 1 (List.map (ax .i64) l),.var 35 (aD v),.var 3 [vI v1]]:=by
 unfold cQ at h
 refine pC (G:=⟨tys,[144],[],[]⟩) ct mixed Tryz.func188 rfl fun g=>go ?_
 refine ⟨rfl,(l.length:Int),by simp,go ?_⟩
 refine lQ h (fun s1=>⟨19,3,ab [(0,.row 0 ((List.map (ax .i64) l).length)),(1,.fn (.func 144) [] [.ptr 1 0,.ptr 2 0]),(7,vI (l.length:Int)),(8,vI s1)],[.row 3 1 (List.map (ax .i64) l),.var 35 (aD v),.var 3 [vI v1]]⟩) (Sum.elim (aO .ret (fun v3=>⟨19,3,ab [(4,vI v3)],[.row 3 1 (List.map (ax .i64) l),.var 35 (aD v),.var 3 [vI v1]]⟩)) (aO (.exit 0) (fun _=>⟨19,3,ab [],[.row 3 1 (List.map (ax .i64) l),.var 35 (aD v),.var 3 [vI v1]]⟩))) wA ?_ <|bE (bO fun v3 _ h w=>go ?_)<|bO fun v4 _ h w=>wk w (go ?_)
 rintro y1 a1 v5 h r
 replace h:bf l v v1 a1=some v5:=h
 unfold bf at h
 refine go ?_
 refine cC h rfl (fun c1 h=>go ?_) fun c1 h=>xE
 obtain ⟨x1,q1,h⟩:=bind_some h
 refine ⟨⟨rfl,(bX q1).1,by have:=bX q1;simp only [List.length_map,List.length_set,List.length_cons,List.length_nil] at*;omega⟩,?_⟩
 refine ⟨rfl,_,al (ax .i64) (af q1).2,go ?_⟩
 refine cU h ring_Ring_1_walk [1,2] fun y2 h=>go ?_
 exact cC h rfl (fun c2 h=>xE) fun c2 h=>cN
 exact eP ⟨19,3,ab [(4,vI v3)],[.row 3 1 (List.map (ax .i64) l),.var 35 (aD v),.var 3 [vI v1]]⟩ (bl.trans w wA)
 exact eP ⟨19,3,ab [(4,vI (-1))],[.row 3 1 (List.map (ax .i64) l),.var 35 (aD v),.var 3 [vI v1]]⟩ wA
def be (v:Locks) (v1 a1 a2:Int) (a3:(List Int)):Option ((Int×Int×(List Int))⊕(Int×(List Int))):=
 if (decide (a2<(a3.length:Int))) then
 ((ix a3 a2).bind fun x1=>
 (ring_Ring_1 x1 v v1).bind fun y1=>
 if (!y1) then
 (ix a3 a1).bind fun x2=>
 some ((IntKind.i64.wrap (a1+1)),(List.set a3 (a1).toNat x1))
 else
 some (a1,a3)).bind fun (y2:Int×(List Int))=>
 some (.inl (y2.1,(IntKind.i64.wrap (a2+1)),y2.2))
 else
 some (.inr (a1,a3))
def bW (l:(List Int)) (v:Locks) (v1:Int):Option ((List Int)):=
 (cQ l v v1).bind fun y1=>
 if (decide (y1=(-1))) then some l else
 (loop (fun (s1:Int×Int×(List Int))=>be v v1 s1.1 s1.2.1 s1.2.2) (y1,(IntKind.i64.wrap (y1+1)),l)).bind fun (y2:Int×(List Int))=>
 aL (0<y2.2.length)<|
 aL ((0:Int)≤y2.1∧y2.1≤(y2.2.length:Int)∧(y2.2.length:Int)≤(y2.2.length:Int))<|
 aL (0<(List.take ((y2.1).toNat) y2.2++List.replicate (((((List.map (ax .i64) y2.2).length:Nat):Int).toNat) - ((y2.1).toNat)) (0:Int)++List.drop ((((List.map (ax .i64) y2.2).length:Nat):Int).toNat) y2.2).length)<|
 aL ((0:Int)≤(0:Int)∧0≤y2.1∧y2.1≤((List.take ((y2.1).toNat) y2.2++List.replicate (((((List.map (ax .i64) y2.2).length:Nat):Int).toNat) - ((y2.1).toNat)) (0:Int)++List.drop ((((List.map (ax .i64) y2.2).length:Nat):Int).toNat) y2.2).length:Int))<|
 some (List.drop ((0:Int).toNat) (List.take ((y2.1).toNat) (List.take ((y2.1).toNat) y2.2++List.replicate (((((List.map (ax .i64) y2.2).length:Nat):Int).toNat) - ((y2.1).toNat)) (0:Int)++List.drop ((((List.map (ax .i64) y2.2).length:Nat):Int).toNat) y2.2)))
theorem slices_DeleteFunc_int__ring_Ring_1_walk {l v v1 r} (h:bW l v v1=some r):pH 143 [.row 3 1 (List.map (ax .i64) l),.var 35 (aD v),.var 3 [vI v1]] [.row 0 ((List.map (ax .i64) l).length),.fn (.func 144) [] [.ptr 1 0,.ptr 2 0]] (sL (ax .i64) r) [.gone,.var 35 (aD v),.var 3 [vI v1]]:=by
 unfold bW at h
 refine pC (G:=⟨tys,[144,188],[],[]⟩) ct mixed Tryz.func143 rfl fun g=>go ?_
 refine cU h slices_IndexFunc_int__ring_Ring_1_walk [0,1,2] fun y1 h=>go ?_
 refine cC h rfl (fun c1 h=>go ?_) fun c1 h=>go ?_
 exact eP ⟨42,3,ab [(4,sL (ax .i64) l)],[.gone,.var 35 (aD v),.var 3 [vI v1]]⟩ (bl.trans (aK 0 rfl) (wF (.g .rest) (.f (.all rfl))))
 refine lQ h (fun s1=>⟨42,3,ab [(0,.row 0 ((List.map (ax .i64) s1.2.2).length)),(1,.fn (.func 144) [] [.ptr 1 0,.ptr 2 0]),(5,vI s1.1),(6,vI s1.2.1)],[.row 3 1 (List.map (ax .i64) s1.2.2),.var 35 (aD v),.var 3 [vI v1]]⟩) (aO (.exit 0) (fun y2=>⟨42,3,ab [(0,.row 0 ((List.map (ax .i64) y2.2).length)),(5,vI y2.1)],[.row 3 1 (List.map (ax .i64) y2.2),.var 35 (aD v),.var 3 [vI v1]]⟩)) wA ?_ <|bO fun y2 _ h w=>wk w (go ?_)
 rintro y2 ⟨a1,a2,a3⟩ v3 h r
 replace h:be v v1 a1 a2 a3=some v3:=h
 unfold be at h
 dsimp only
 refine go ?_
 refine ⟨rfl,(a3.length:Int),by simp,go ?_⟩
 refine cC h rfl (fun c2 h=>gN 1 ?_) fun c2 h=>xE
 refine k1 h (fun y3=>⟨42,3,ab [(0,.row 0 ((List.map (ax .i64) y3.2).length)),(1,.fn (.func 144) [] [.ptr 1 0,.ptr 2 0]),(5,vI y3.1),(6,vI a2)],[.row 3 1 (List.map (ax .i64) y3.2),.var 35 (aD v),.var 3 [vI v1]]⟩) (fun y3 h=>go ?_) fun y3 h=>cN
 obtain ⟨x1,q1,h⟩:=bind_some h
 refine ⟨⟨rfl,(bX q1).1,by have:=bX q1;simp only [List.length_map,List.length_set,List.length_cons,List.length_nil] at*;omega⟩,?_⟩
 refine ⟨rfl,_,al (ax .i64) (af q1).2,go ?_⟩
 refine cU h ring_Ring_1_walk [1,2] fun y4 h=>go ?_
 refine cC h rfl (fun c3 h=>go ?_) fun c3 h=>cE
 obtain ⟨x2,q2,h⟩:=bind_some h
 refine ⟨⟨rfl,(bX q2).1,by have:=bX q2;simp only [List.length_map,List.length_set,List.length_cons,List.length_nil] at*;omega⟩,?_⟩
 refine ⟨rfl,_,al (ax .i64) (af q2).2,Nat.le_of_ble_eq_true rfl,List.map (ax .i64) (List.set a3 (a1).toNat x1),map_set (ax .i64) _ _ _ rfl,go ?_⟩
 cases h
 exact ⟨rfl,wI⟩
 obtain ⟨p1,h⟩:=au h
 refine ⟨⟨rfl,by have:=p1;simp only [List.length_map,List.length_append,List.length_take,List.length_drop,List.length_replicate,List.length_set] at*;omega⟩,?_⟩
 refine go ?_
 refine nD h fun p2 h=>⟨by have:=p2;simp only [List.length_map,List.length_append,List.length_take,List.length_drop,List.length_replicate,List.length_set] at*;omega,rfl,List.map (ax .i64) (List.take ((y2.1).toNat) y2.2++List.replicate (((((List.map (ax .i64) y2.2).length:Nat):Int).toNat) - ((y2.1).toNat)) (0:Int)++List.drop ((((List.map (ax .i64) y2.2).length:Nat):Int).toNat) y2.2),by rw [List.map_append,List.map_append,List.map_take,List.map_drop,List.map_replicate];rfl,go ?_⟩
 obtain ⟨p3,h⟩:=au h
 refine ⟨⟨by first|(simp;done)|(simp only [List.length_map,List.length_append,List.length_take,List.length_drop,List.length_replicate,List.length_set,List.length_mergeSort];omega),by have:=p3;simp only [List.length_map,List.length_append,List.length_take,List.length_drop,List.length_replicate,List.length_set] at*;omega⟩,?_⟩
 refine go ?_
 refine nD h fun p4 h=>⟨by have:=p4;simp only [List.length_map,List.length_append,List.length_take,List.length_drop,List.length_replicate,List.length_set] at*;omega,go ?_⟩
 exact eP ⟨42,3,ab [(4,sL (ax .i64) (List.drop ((0:Int).toNat) (List.take ((y2.1).toNat) (List.take ((y2.1).toNat) y2.2++List.replicate (((((List.map (ax .i64) y2.2).length:Nat):Int).toNat) - ((y2.1).toNat)) (0:Int)++List.drop ((((List.map (ax .i64) y2.2).length:Nat):Int).toNat) y2.2))))],[.gone,.var 35 (aD v),.var 3 [vI v1]]⟩ (bl.trans (aK 0 rfl) (wF (.g .rest) (.cons (.one (.frzvw rfl (by first|(simp;done)|(simp only [List.length_map,List.length_append,List.length_take,List.length_drop,List.length_replicate,List.length_set,List.length_mergeSort];omega)) (by rw [List.map_drop,List.map_take]))) (.all rfl))))
def ring_Ring (l:Locks) (txn:Int):Option ((List Int)):=
 (ring_Reach l txn).bind fun y1=>
 (slices_Contains_int y1 txn).bind fun y2=>
 if (!y2) then some ([]:(List Int)) else
 (bW y1 l txn).bind fun y3=>
 some y3
theorem ring_Ring_walk {l txn r} (h:ring_Ring l txn=some r):pP 90 [.agg (aD l),vI txn] (sL (ax .i64) r):=by
 unfold ring_Ring at h
 refine pW (G:=⟨tys,[143],[(141,3,1)],[]⟩) ct mixed Tryz.func90 rfl fun g=>go ?_
 refine cF h ring_Reach_walk fun y1 h=>go ?_
 refine ⟨rfl,go ?_⟩
 refine cP h slices_Contains_int_walk fun y2 h=>go ?_
 refine cC h rfl (fun c1 h=>eF) fun c1 h=>go ?_
 exact cU h slices_DeleteFunc_int__ring_Ring_1_walk [2,0,1] fun y3 h=>eF
def slices_Max_int_l2 (x:(List Int)) (a1 a2:Int):Option ((Int×Int)⊕(Int)):=
 if (decide (a2<(x.length:Int))) then
 (ix x a2).bind fun x1=>
 some (.inl ((if a1<x1 then x1 else a1),(IntKind.i64.wrap (a2+1))))
 else
 some (.inr a1)
def slices_Max_int (x:(List Int)):Option (Int):=
 if (decide ((x.length:Int)<1)) then none else
 (ix x 0).bind fun x1=>
 (loop (fun (s1:Int×Int)=>slices_Max_int_l2 x s1.1 s1.2) (x1,(1:Int))).bind fun (y1:Int)=>
 some y1
theorem slices_Max_int_walk {x r} (h:slices_Max_int x=some r):pP 91 [sL (ax .i64) x] (vI r):=by
 unfold slices_Max_int at h
 refine pW0 Tryz.func91 rfl fun g=>go ?_
 refine ⟨_,(aA _ _).symm,go ?_⟩
 refine cC h rfl (fun c1 h=>go ?_) fun c1 h=>go ?_
 cases h
 refine bD h fun x1 q1 h=>⟨(af q1).1,_,al (ax .i64) (af q1).2,rfl,go ?_⟩
 refine lQ h (fun s1=>⟨25,0,ab [(0,sL (ax .i64) x),(3,vI s1.1),(4,vI s1.2)],[]⟩) (aO (.exit 0) (fun y1=>⟨25,0,ab [(3,vI y1)],[]⟩)) wA ?_ <|bO fun y1 _ h w=>wk w eF
 rintro y1 ⟨a1,a2⟩ v1 h r
 replace h:slices_Max_int_l2 x a1 a2=some v1:=h
 unfold slices_Max_int_l2 at h
 dsimp only
 refine go ?_
 refine ⟨_,(aA _ _).symm,go ?_⟩
 refine cC h rfl (fun c3 h=>go ?_) fun c3 h=>xE
 refine bD h fun x2 q2 h=>⟨(af q2).1,_,al (ax .i64) (af q2).2,rfl,cN⟩
def ring_Victim (l:Locks) (txn:Int):Option (Int×Bool):=
 (ring_Ring l txn).bind fun y1=>
 if (decide ((y1.length:Int)=0)) then some (0,false) else
 (slices_Max_int y1).bind fun y2=>
 some (y2,true)
theorem ring_Victim_walk {l txn r} (h:ring_Victim l txn=some r):pP 57 [.agg (aD l),vI txn] (.tup [vI r.1,vB r.2]):=by
 unfold ring_Victim at h
 refine pW0 Tryz.func57 rfl fun g=>go ?_
 refine cP h ring_Ring_walk fun y1 h=>go ?_
 refine ⟨_,(aA _ _).symm,go ?_⟩
 refine cC h rfl (fun c1 h=>eF) fun c1 h=>go ?_
 exact cP h slices_Max_int_walk fun y2 h=>eF
def engine_work_locks_l2 (t:Txn) (a1:Engine) (a2:(List Done)):Option ((Engine×(List Done))⊕(Engine×(List Done))):=
 (ring_Victim a1.L t.Id).bind fun y1=>
 if (!y1.2) then some (.inr (a1,a2)) else
 (cV a1 a2 y1.1 13).bind fun y2=>
 some (.inl (y2.1,y2.2))
def engine_work_locks (v:Engine) (l:(List Done)) (t:Txn) (op:Op_):Option (Engine×(List Done)):=
 (engine_wants op).bind fun y1=>
 (engine_until v.Now).bind fun y2=>
 (lock_Ask v.L t.Id y1 y2).bind fun y3=>
 if (decide (y3.2=0)) then
 (engine_work_does (⟨v.X,y3.1,v.T,v.Next,v.Now⟩:Engine) l t op).bind fun y4=>
 some (y4.1,y4.2)
 else
 if (decide (y3.2=12)) then
 (engine_work_put (⟨v.X,y3.1,v.T,v.Next,v.Now⟩:Engine) l (⟨t.Id,t.Token,t.Writes,true,op⟩:Txn)).bind fun y5=>
 (loop (fun (s1:Engine×(List Done))=>engine_work_locks_l2 t s1.1 s1.2) (y5,l)).bind fun (y6:Engine×(List Done))=>
 some (y6.1,y6.2)
 else
 aL ((l.length+1)*72≤140737488355328)<|
 some ((⟨v.X,y3.1,v.T,v.Next,v.Now⟩:Engine),(l++[(⟨t.Id,y3.2,[],false,[],false⟩:Done)]))
theorem engine_work_locks_walk {v l t op r} (h:engine_work_locks v l t op=some r):pH 31 [.var 96 (ag v++[.row 1 ((List.map ak l).length)]),.row 63 6 (List.map ak l)] [.ptr 0 0,.agg (aB t),.agg (encOp_ op)] (.tup []) [.var 96 (ag r.1++[.row 1 ((List.map ak r.2).length)]),.row 63 6 (List.map ak r.2)]:=by
 unfold engine_work_locks at h
 refine pC (G:=⟨tys,[29,55,56],[],[]⟩) ct mixed Tryz.func31 rfl fun g=>go ?_
 obtain ⟨y1,q1,h⟩:=bind_some h
 obtain ⟨y2,q2,h⟩:=bind_some h
 obtain ⟨y3,q3,h⟩:=bind_some h
 refine cp.many 21 (.k [0,1,2,3,4,5,6,7,9,10,11,12,13] (.alt 8 (.alt 14 (.alt 15 (.k [16,17,18] (.o 19 (.o 20 .fin))) (.o 19 (.o 15 (.k [16,17,18] (.o 20 .fin))))) (.o 19 (.o 14 (.o 15 (.k [16,17,18] (.o 20 .fin)))))) (.o 19 (.o 8 (.o 14 (.o 15 (.k [16,17,18] (.o 20 .fin)))))))) [4,5,6,7,8,9] (⟨78,2,ab [(0,.ptr 0 0),(4,.ptr 2 0),(5,.ptr 3 0),(6,.ptr 4 0),(28,vI y3.2)],[.var 96 (ag v++[.row 1 ((List.map ak l).length)]),.row 63 6 (List.map ak l),.var 46 (aB t),.var 44 (encOp_ op),.var 35 (aD y3.1)]⟩) (by kernel_rfl) ⟨go ?_,⟨⟨go ?_,⟨⟩⟩,⟨⟩⟩⟩ (go ?_)
 refine mP (engine_wants_walk q1) ⟨go ?_,⟨⟨go ?_,⟨⟩⟩,⟨⟩⟩⟩
 refine mP (engine_until_walk q2) ⟨go ?_,⟨⟨go ?_,⟨⟩⟩,⟨⟩⟩⟩
 exact mP (lock_Ask_walk q3) ⟨⟨cA,⟨⟩⟩,⟨⟩⟩
 exact mP (lock_Ask_walk q3) ⟨cA,⟨⟩⟩
 refine mP (engine_until_walk q2) ⟨go ?_,⟨⟩⟩
 exact mP (lock_Ask_walk q3) ⟨cA,⟨⟩⟩
 refine mP (engine_wants_walk q1) ⟨go ?_,⟨⟩⟩
 refine mP (engine_until_walk q2) ⟨go ?_,⟨⟩⟩
 exact mP (lock_Ask_walk q3) ⟨cA,⟨⟩⟩
 refine cC h rfl (fun c1 h=>go ?_) fun c1 h=>go ?_
 refine cU h engine_work_does_walk [0,1] fun y4 h=>go ?_
 exact eP ⟨78,2,ab [],[.var 96 (ag y4.1++[.row 1 ((List.map ak y4.2).length)]),.row 63 6 (List.map ak y4.2)]⟩ wA
 refine cC h rfl (fun c2 h=>go ?_) fun c2 h=>go ?_
 refine cp.one 3 (.k [0,1] (.o 2 .fin)) [2,5,6,7,8,9,10] (by kernel_rfl) ⟨go ?_,⟨⟩⟩
 refine cU h engine_work_put_walk [0,1] fun y5 h=>go ?_
 refine lQ h (fun s1=>⟨78,2,ab [(0,.ptr 0 0),(4,.ptr 2 0)],[.var 96 (ag s1.1++[.row 1 ((List.map ak s1.2).length)]),.row 63 6 (List.map ak s1.2),.var 46 [vI t.Id,vS t.Token,sL am t.Writes,vB true,vI op.Kind,vS op.Key,vS op.Val,vS op.Lo,vS op.Hi,vI op.Most]]⟩) (aO .ret (fun y6=>⟨78,2,ab [],[.var 96 (ag y6.1++[.row 1 ((List.map ak y6.2).length)]),.row 63 6 (List.map ak y6.2)]⟩)) wA ?_ <|bO fun y6 _ h w=>go ?_
 rintro y6 ⟨a1,a2⟩ v1 h r
 replace h:engine_work_locks_l2 t a1 a2=some v1:=h
 unfold engine_work_locks_l2 at h
 dsimp only
 refine go ?_
 refine cp.one 13 (.k [0,1,2,3,4,5,6] (.o 7 (.k [8,9,10,11,12] .fin))) [] (by kernel_rfl) ⟨go ?_,⟨⟩⟩
 refine cP h ring_Victim_walk fun y7 h=>go ?_
 refine cC h rfl (fun c3 h=>xE) fun c3 h=>go ?_
 exact cU h engine_work_ends_walk [0,1] fun y8 h=>cN
 exact eP ⟨78,2,ab [],[.var 96 (ag y6.1++[.row 1 ((List.map ak y6.2).length)]),.row 63 6 (List.map ak y6.2)]⟩ (bl.trans w wA)
 refine cp.one 13 (.k [0,1,2,3,4,5,6,7,8] (.o 9 (.o 10 (.k [11,12] .fin)))) [] (by kernel_rfl) ⟨⟨List.map ak [(⟨t.Id,y3.2,[],false,[],false⟩:Done)],rfl,⟨rfl,rfl,go ?_⟩,⟨⟩⟩,⟨⟩⟩
 refine nD h fun p1 h=>⟨by simp only [List.length_map];exact p1,List.map ak (l++[(⟨t.Id,y3.2,[],false,[],false⟩:Done)]),dk ak _ _ rfl rfl,go ?_⟩
 exact eP ⟨78,2,ab [],[.var 96 (ag (⟨v.X,y3.1,v.T,v.Next,v.Now⟩:Engine)++[.row 1 ((List.map ak (l++[(⟨t.Id,y3.2,[],false,[],false⟩:Done)])).length)]),.row 63 6 (List.map ak (l++[(⟨t.Id,y3.2,[],false,[],false⟩:Done)]))]⟩ wA
def engine_Ask (e:Engine) (id:Int) (op:Op_):Option (Engine×(List Done)):=
 (dw e id).bind fun y1=>
 if (!y1.2) then
 (engine_Ask_1 7 e id).bind fun y2=>
 some (y2.1,y2.2)
 else
 if y1.1.Waits then
 (engine_Ask_1 9 e id).bind fun y3=>
 some (y3.1,y3.2)
 else
 (engine_may op).bind fun y4=>
 if (!y4) then
 (engine_Ask_1 1 e id).bind fun y5=>
 some (y5.1,y5.2)
 else
 (if (decide (op.Kind=5)) then
 (engine_work_commit e ([]:List Done) y1.1 (⟨1,[],y1.1.Writes⟩:Batch)).bind fun y6=>
 (cV y6.2 ([]:List Done) id y6.1).bind fun y7=>
 some (y7.1,y7.2)
 else
 if (decide (op.Kind=6)) then
 (engine_work_commit e ([]:List Done) y1.1 (⟨2,[],[]⟩:Batch)).bind fun y8=>
 (cV y8.2 ([]:List Done) id y8.1).bind fun y9=>
 some (y9.1,y9.2)
 else
 (engine_work_locks e ([]:List Done) y1.1 op).bind fun y10=>
 some (y10.1,y10.2)).bind fun (y11:Engine×(List Done))=>
 some (y11.1,y11.2)
theorem engine_Ask_walk {e id op r} (h:engine_Ask e id op=some r):pP 15 [.agg (ag e),vI id,.agg (encOp_ op)] (.tup [.agg (ag r.1),sL ak r.2]):=by
 unfold engine_Ask at h
 refine pW (G:=⟨tys,[27,29,30,31],[],[]⟩) ct mixed Tryz.func15 rfl fun g=>go ?_
 refine cP h cr fun y1 h=>go ?_
 refine cC h rfl (fun c1 h=>go ?_) fun c1 h=>go ?_
 exact cU h engine_Ask_1_walk [0,1] fun y2 h=>eF
 refine cC h rfl (fun c2 h=>go ?_) fun c2 h=>go ?_
 exact cU h engine_Ask_1_walk [0,1] fun y3 h=>eF
 refine cP h engine_may_walk fun y4 h=>go ?_
 refine cC h rfl (fun c3 h=>go ?_) fun c3 h=>gN 4 ?_
 exact cU h engine_Ask_1_walk [0,1] fun y5 h=>eF
 refine dz.weak (show bl _ ⟨81,0,ab [(0,.agg (ag e)),(1,vI id),(2,.agg (encOp_ op)),(3,.ptr 0 0),(4,.ptr 1 0),(5,.ptr 2 0),(6,.ptr 3 0),(7,vN),(8,.ptr 4 0),(9,vB y1.2),(10,.fn (.func 27) [] [.ptr 0 0,.ptr 1 0]),(11,.ptr 5 0),(13,.tup [.agg (aB y1.1),vB y1.2]),(14,.agg [sL ar e.X.D.Files,vI e.X.D.Room,vI e.X.D.Fuse,vB e.X.D.Off,vI e.X.From,vI e.X.Seg,vI e.X.Run,sL ac e.X.S.Data,sL ac e.X.S.Toks,vB e.X.Down,sL ay e.L.Held,sL an e.L.Queue,sL aB e.T,vI e.Next,vU e.Now]),(15,vI id),(16,.tup [.agg (aB y1.1),vB y1.2]),(17,.agg (aB y1.1)),(18,vB y1.2),(19,.fn (.func 27) [] [.ptr 0 0,.ptr 1 0]),(20,vB false),(21,vB y1.2),(22,vB (!y1.2)),(27,vB false),(28,.ptr 4 3),(29,vB y1.1.Waits),(34,vB false),(35,.agg [vI op.Kind,vS op.Key,vS op.Val,vS op.Lo,vS op.Hi,vI op.Most]),(36,vB y4),(37,vB (!y4)),(42,.agg [sL ar e.X.D.Files,vI e.X.D.Room,vI e.X.D.Fuse,vB e.X.D.Off,vI e.X.From,vI e.X.Seg,vI e.X.Run,sL ac e.X.S.Data,sL ac e.X.S.Toks,vB e.X.Down,sL ay e.L.Held,sL an e.L.Queue,sL aB e.T,vI e.Next,vU e.Now]),(43,.agg [sL ar e.X.D.Files,vI e.X.D.Room,vI e.X.D.Fuse,vB e.X.D.Off,vI e.X.From,vI e.X.Seg,vI e.X.Run,sL ac e.X.S.Data,sL ac e.X.S.Toks,vB e.X.Down,sL ay e.L.Held,sL an e.L.Queue,sL aB e.T,vI e.Next,vU e.Now,vN]),(44,.ptr 5 0)],[.var 39 (ag e),.var 3 [vI id],.var 44 (encOp_ op),.var 39 [vN,vI 0,vI 0,vB false,vI 0,vI 0,vI 0,vN,vN,vB false,vN,vN,vN,vI 0,vU 0],.var 46 (aB y1.1),.var 96 (ag e++[.row 6 0]),.row 63 6 (List.map ak ([]:List Done))]⟩ from bl.trans (dF 5 15 63 6 rfl rfl) wA) (gN 1 ?_)
 refine k1 h (fun y6=>⟨81,0,ab [(6,.ptr 3 0),(11,.ptr 5 0)],[.gone,.gone,.gone,.var 39 [vN,vI 0,vI 0,vB false,vI 0,vI 0,vI 0,vN,vN,vB false,vN,vN,vN,vI 0,vU 0],.gone,.var 96 (ag y6.1++[.row 6 ((List.map ak y6.2).length)]),.row 63 6 (List.map ak y6.2)]⟩) (fun y6 h=>go ?_) fun y6 h=>go ?_
 refine cC h rfl (fun c4 h=>go ?_) fun c4 h=>go ?_
 refine cp.one 9 (.k [0,1,2,3,4,5,6] (.o 7 (.o 8 .fin))) [5] (by kernel_rfl) ⟨go ?_,⟨⟩⟩
 refine cU h engine_work_commit_walk [5,6] fun y7 h=>⟨go ?_,⟨⟩⟩
 refine cU h engine_work_ends_walk [5,6] fun y8 h=>go ?_
 cases h
 exact ⟨rfl,(wF (.g (.g (.g (.s (.g .rest))))) (.all rfl))⟩
 refine cC h rfl (fun c5 h=>go ?_) fun c5 h=>go ?_
 refine cp.one 7 (.k [0,1,2,3,4] (.o 5 (.o 6 .fin))) [5] (by kernel_rfl) ⟨go ?_,⟨⟩⟩
 refine du.unnil (cU h engine_work_commit_walk [5,6] fun y9 h=>⟨go ?_,⟨⟩⟩)
 refine cU h engine_work_ends_walk [5,6] fun y10 h=>go ?_
 cases h
 exact ⟨rfl,(wF (.g (.g (.g (.s (.g .rest))))) (.all rfl))⟩
 refine cU h engine_work_locks_walk [5,6] fun y11 h=>go ?_
 cases h
 exact ⟨rfl,(wF (.g (.g (.g (.s (.g .rest))))) (.all rfl))⟩
 exact cp.one 9 (.k [0,1,2,3,4,5,6,7] (.o 8 .fin)) [3,7,8,9,10,11,12] (by kernel_rfl) ⟨eF,⟨⟩⟩
def law13_shown:Option (Bool):=
 (ref03_New 1000).bind fun y1=>
 (engine_New y1.1).bind fun y2=>
 (engine_Begin y2.1 [116]).bind fun y4=>
 (engine_Ask y4.1 y4.2.1 (⟨2,[97],[49],[],[],0⟩:Op_)).bind fun y6=>
 (engine_Ask y6.1 y4.2.1 (⟨1,[97],[],[],[],0⟩:Op_)).bind fun y8=>
 (engine_Ask y8.1 y4.2.1 (⟨5,[],[],[],[],0⟩:Op_)).bind fun y10=>
 if (decide (y2.2=0)) then
 if (decide (y4.2.2=0)) then
 if (decide (y4.2.1=1)) then
 if (decide ((y6.2.length:Int)=1)) then
 if (decide ((y8.2.length:Int)=1)) then
 (ix y8.2 0).bind fun x1=>
 if (decide (x1.Val=[49])) then
 if (decide ((y10.2.length:Int)=1)) then
 (ix y10.2 0).bind fun x2=>
 if x2.Over then
 if (decide (x2.Err=0)) then some (decide ((y10.1.X.S.Data.length:Int)=1)) else
 some false
 else
 some false
 else
 some false
 else
 some false
 else
 some false
 else
 some false
 else
 some false
 else
 some false
 else
 some false
theorem law13_shown_walk {r} (h:law13_shown=some r):pP 10 [] (vB r):=by
 unfold law13_shown at h
 refine pW0 Tryz.func10 rfl fun g=>go ?_
 refine cP h ref03_New_walk fun y1 h=>go ?_
 refine cP h engine_New_walk fun y2 h=>go ?_
 refine cP h engine_Begin_walk fun y4 h=>go ?_
 refine cP h engine_Ask_walk fun y6 h=>go ?_
 refine cP h engine_Ask_walk fun y8 h=>go ?_
 refine cP h engine_Ask_walk fun y10 h=>go ?_
 refine cM h (fun c1 h=>go ?_) fun c1 h=>eF
 refine cM h (fun c2 h=>go ?_) fun c2 h=>eF
 refine cM h (fun c3 h=>⟨_,(aA _ _).symm,go ?_⟩) fun c3 h=>eF
 refine cM h (fun c4 h=>⟨_,(aA _ _).symm,go ?_⟩) fun c4 h=>eF
 refine cM h (fun c5 h=>go ?_) fun c5 h=>eF
 refine bD h fun x1 q1 h=>⟨(af q1).1,_,al ak (af q1).2,rfl,_,bs_eq _ _,go ?_⟩
 refine cM h (fun c6 h=>⟨_,(aA _ _).symm,go ?_⟩) fun c6 h=>eF
 refine cM h (fun c7 h=>go ?_) fun c7 h=>eF
 refine bD h fun x2 q2 h=>⟨(af q2).1,_,al ak (af q2).2,rfl,go ?_⟩
 refine cM h (fun c8 h=>⟨(af q2).1,_,al ak (af q2).2,rfl,go ?_⟩) fun c8 h=>eF
 exact cM h (fun c9 h=>⟨_,(aA _ _).symm,eF⟩) fun c9 h=>eF
def engine_Leave (e:Engine) (id:Int):Option (Engine×(List Done)):=
 (dw e id).bind fun y1=>
 if (!y1.2) then some (e,[]) else
 (engine_work_commit e ([]:List Done) y1.1 (⟨2,[],[]⟩:Batch)).bind fun y2=>
 (engine_work_goes y2.2 ([]:List Done) id).bind fun y3=>
 some (y3.1,y3.2)
theorem engine_Leave_walk {e id r} (h:engine_Leave e id=some r):pP 41 [.agg (ag e),vI id] (.tup [.agg (ag r.1),sL ak r.2]):=by
 unfold engine_Leave at h
 refine pW (G:=⟨tys,[30,50],[],[]⟩) ct mixed Tryz.func41 rfl fun g=>go ?_
 refine cP h cr fun y1 h=>go ?_
 refine cC h rfl (fun c1 h=>eF) fun c1 h=>gN 4 ?_
 refine dz.weak (show bl _ ⟨36,0,ab [(0,.agg (ag e)),(1,vI id),(2,.ptr 0 0),(4,.ptr 1 0),(5,vN),(6,.ptr 2 0),(7,vB y1.2),(8,.ptr 3 0),(9,.tup [.agg (aB y1.1),vB y1.2]),(10,.agg [sL ar e.X.D.Files,vI e.X.D.Room,vI e.X.D.Fuse,vB e.X.D.Off,vI e.X.From,vI e.X.Seg,vI e.X.Run,sL ac e.X.S.Data,sL ac e.X.S.Toks,vB e.X.Down,sL ay e.L.Held,sL an e.L.Queue,sL aB e.T,vI e.Next,vU e.Now]),(11,vI id),(12,.tup [.agg (aB y1.1),vB y1.2]),(13,.agg (aB y1.1)),(14,vB y1.2),(15,vB y1.2),(16,vB false),(18,.agg [sL ar e.X.D.Files,vI e.X.D.Room,vI e.X.D.Fuse,vB e.X.D.Off,vI e.X.From,vI e.X.Seg,vI e.X.Run,sL ac e.X.S.Data,sL ac e.X.S.Toks,vB e.X.Down,sL ay e.L.Held,sL an e.L.Queue,sL aB e.T,vI e.Next,vU e.Now]),(19,.agg [sL ar e.X.D.Files,vI e.X.D.Room,vI e.X.D.Fuse,vB e.X.D.Off,vI e.X.From,vI e.X.Seg,vI e.X.Run,sL ac e.X.S.Data,sL ac e.X.S.Toks,vB e.X.Down,sL ay e.L.Held,sL an e.L.Queue,sL aB e.T,vI e.Next,vU e.Now,vN]),(20,.ptr 3 0)],[.var 39 (ag e),.var 39 [vN,vI 0,vI 0,vB false,vI 0,vI 0,vI 0,vN,vN,vB false,vN,vN,vN,vI 0,vU 0],.var 46 (aB y1.1),.var 96 (ag e++[.row 4 0]),.row 63 6 (List.map ak ([]:List Done))]⟩ from bl.trans (dF 3 15 63 6 rfl rfl) wA) (go ?_)
 refine du.unnil (cU h engine_work_commit_walk [3,4] fun y2 h=>go ?_)
 refine cU h engine_work_goes_walk [3,4] fun y3 h=>go ?_
 exact cp.one 9 (.k [0,1,2,3,4,5,6,7] (.o 8 .fin)) [1,5,6,7,8,9,10] (by kernel_rfl) ⟨eF,⟨⟩⟩
def law13_later (now n:Int):Option (Int):=
 if ((decide (n<0))||(decide (n>100))) then some now else
 if (decide (now>4611686018427387904)) then some now else
 some (IntKind.u64.wrap (now+(IntKind.u64.wrap n)))
theorem law13_later_walk {now n r} (h:law13_later now n=some r):pP 42 [vU now,vI n] (vU r):=by
 unfold law13_later at h
 refine pW0 Tryz.func42 rfl fun g=>gN 3 ?_
 refine k0 ⟨19,0,ab [(0,vU now),(1,vI n),(10,vB ((decide (n<0))||(decide (n>100))))],[]⟩ (go ?_) ((cC h rfl (fun c1 h=>eF) fun c1 h=>go ?_))
 exact cK (decide (n<0)) (fun i1=>cI) fun i1=>cI
 refine cC h rfl (fun c2 h=>eF) fun c2 h=>go ?_
 refine ⟨(IntKind.u64.wrap n),rfl,eF⟩
def lock_Late_l2 (l:Locks) (now a1:Int) (a2:(List Int)):Option ((Int×(List Int))⊕((List Int))):=
 if (decide (a1<(l.Queue.length:Int))) then
 ((ix l.Queue a1).bind fun x1=>
 if (decide (x1.Until≤now)) then
 aL ((a2.length+1)*8≤140737488355328)<|
 some (a2++[x1.Txn])
 else
 some a2).bind fun (y1:(List Int))=>
 some (.inl ((IntKind.i64.wrap (a1+1)),y1))
 else
 some (.inr a2)
def lock_Late (l:Locks) (now:Int):Option ((List Int)):=
 (loop (fun (s1:Int×(List Int))=>lock_Late_l2 l now s1.1 s1.2) ((0:Int),([]:(List Int)))).bind fun (y1:(List Int))=>
 some y1
theorem lock_Late_walk {l now r} (h:lock_Late l now=some r):pP 32 [.agg (aD l),vU now] (sL (ax .i64) r):=by
 unfold lock_Late at h
 refine pW0 Tryz.func32 rfl fun g=>go ?_
 refine ⟨_,(aA _ _).symm,go ?_⟩
 refine lQ h (fun s1=>⟨26,0,ab [(1,vU now),(5,.row 1 ((List.map (ax .i64) s1.2).length)),(9,sL an l.Queue),(10,vI (l.Queue.length:Int)),(11,vI s1.1)],[.gone,.row 3 1 (List.map (ax .i64) s1.2)]⟩) (aO (.exit 0) (fun y1=>⟨26,0,ab [(5,.row 1 ((List.map (ax .i64) y1).length))],[.gone,.row 3 1 (List.map (ax .i64) y1)]⟩)) (bl.trans (weak_nil 5 3 1 rfl) (wF (.g .rest) (.s (.q (.all rfl))))) ?_ <|bO fun y1 _ h w=>wk w eF
 rintro y1 ⟨a1,a2⟩ v1 h r
 replace h:lock_Late_l2 l now a1 a2=some v1:=h
 unfold lock_Late_l2 at h
 dsimp only
 refine go ?_
 refine cC h rfl (fun c1 h=>gN 1 ?_) fun c1 h=>xE
 refine k1 h (fun y2=>⟨26,0,ab [(1,vU now),(5,.row 1 ((List.map (ax .i64) y2).length)),(9,sL an l.Queue),(10,vI (l.Queue.length:Int)),(11,vI a1)],[.gone,.row 3 1 (List.map (ax .i64) y2)]⟩) (fun y2 h=>go ?_) fun y2 h=>cN
 refine bD h fun x1 q1 h=>⟨(af q1).1,_,al an (af q1).2,rfl,go ?_⟩
 refine cC h rfl (fun c2 h=>go ?_) fun c2 h=>cE
 refine ⟨List.map (ax .i64) [x1.Txn],rfl,rfl,rfl,go ?_⟩
 refine nD h fun p1 h=>⟨by simp only [List.length_map];exact p1,List.map (ax .i64) (a2++[x1.Txn]),dk (ax .i64) _ _ rfl rfl,cE⟩
def engine_Tick_l2 (y1:(List Int)) (a1:Int) (a2:Engine) (a3:(List Done)):Option ((Int×Engine×(List Done))⊕(Engine×(List Done))):=
 if (decide (a1<(y1.length:Int))) then
 ((ix y1 a1).bind fun x1=>
 (lock_Waits a2.L x1).bind fun y2=>
 if y2 then
 (cV a2 a3 x1 13).bind fun y3=>
 some (y3.1,y3.2)
 else
 some (a2,a3)).bind fun (y4:Engine×(List Done))=>
 some (.inl ((IntKind.i64.wrap (a1+1)),y4.1,y4.2))
 else
 some (.inr (a2,a3))
def engine_Tick (e:Engine) (now:Int):Option (Engine×(List Done)):=
 (lock_Late e.L (if e.Now<now then now else e.Now)).bind fun y1=>
 (loop (fun (s1:Int×Engine×(List Done))=>engine_Tick_l2 y1 s1.1 s1.2.1 s1.2.2) ((0:Int),(⟨e.X,e.L,e.T,e.Next,(if e.Now<now then now else e.Now)⟩:Engine),([]:List Done))).bind fun (y2:Engine×(List Done))=>
 some (y2.1,y2.2)
theorem engine_Tick_walk {e now r} (h:engine_Tick e now=some r):pP 17 [.agg (ag e),vU now] (.tup [.agg (ag r.1),sL ak r.2]):=by
 unfold engine_Tick at h
 refine pW (G:=⟨tys,[29],[],[]⟩) ct mixed Tryz.func17 rfl fun g=>gN 5 ?_
 refine dz.weak (show bl _ ⟨58,0,ab [(0,.agg (ag e)),(1,vU now),(2,.ptr 0 0),(4,.ptr 1 0),(5,vN),(6,.ptr 2 0),(9,.agg [sL ar e.X.D.Files,vI e.X.D.Room,vI e.X.D.Fuse,vB e.X.D.Off,vI e.X.From,vI e.X.Seg,vI e.X.Run,sL ac e.X.S.Data,sL ac e.X.S.Toks,vB e.X.Down,sL ay e.L.Held,sL an e.L.Queue,sL aB e.T,vI e.Next,vU e.Now]),(10,.agg [sL ar e.X.D.Files,vI e.X.D.Room,vI e.X.D.Fuse,vB e.X.D.Off,vI e.X.From,vI e.X.Seg,vI e.X.Run,sL ac e.X.S.Data,sL ac e.X.S.Toks,vB e.X.Down,sL ay e.L.Held,sL an e.L.Queue,sL aB e.T,vI e.Next,vU e.Now,vN]),(11,.ptr 2 0)],[.var 39 (ag e),.var 39 [vN,vI 0,vI 0,vB false,vI 0,vI 0,vI 0,vN,vN,vB false,vN,vN,vN,vI 0,vU 0],.var 96 (ag e++[.row 3 0]),.row 63 6 (List.map ak ([]:List Done))]⟩ from bl.trans (dF 2 15 63 6 rfl rfl) wA) (go ?_)
 refine cp.one 13 (.k [0,1,2,3,4,5,6,7,8,9,12] (.o 10 (.k [11] .fin))) [] (by kernel_rfl) ⟨go ?_,⟨⟩⟩
 refine cP h lock_Late_walk fun y1 h=>⟨_,(aA _ _).symm,go ?_⟩
 refine lQ h (fun s1=>⟨58,0,ab [(4,.ptr 1 0),(6,.ptr 2 0),(33,sL (ax .i64) y1),(34,vI (y1.length:Int)),(35,vI s1.1)],[.gone,.var 39 [vN,vI 0,vI 0,vB false,vI 0,vI 0,vI 0,vN,vN,vB false,vN,vN,vN,vI 0,vU 0],.var 96 (ag s1.2.1++[.row 3 ((List.map ak s1.2.2).length)]),.row 63 6 (List.map ak s1.2.2)]⟩) (aO (.exit 0) (fun y2=>⟨58,0,ab [(4,.ptr 1 0),(6,.ptr 2 0)],[.gone,.var 39 [vN,vI 0,vI 0,vB false,vI 0,vI 0,vI 0,vN,vN,vB false,vN,vN,vN,vI 0,vU 0],.var 96 (ag y2.1++[.row 3 ((List.map ak y2.2).length)]),.row 63 6 (List.map ak y2.2)]⟩)) (wF (.g (.s (.cons (.var (.cons (.same rfl) (.cons (.same rfl) (.cons (.same rfl) (.cons (.same rfl) (.cons (.same rfl) (.cons (.same rfl) (.cons (.same rfl) (.cons (.same rfl) (.cons (.same rfl) (.cons (.same rfl) (.cons (.same rfl) (.cons (.same rfl) (.cons (.same rfl) (.cons (.same rfl) (.cons (.same rfl) (.cons (.same (show (.row 3 0:AV)=(.row 3 ((List.map ak ([]:List Done)).length):AV) from congrArg (AV.row 3) (by simp))) (.nil)))))))))))))))))) .rest))) (.all rfl)) ?_ <|bO fun y2 _ h w=>wk w (go ?_)
 rintro y2 ⟨a1,a2,a3⟩ v1 h r
 replace h:engine_Tick_l2 y1 a1 a2 a3=some v1:=h
 unfold engine_Tick_l2 at h
 dsimp only
 refine go ?_
 refine cC h rfl (fun c1 h=>gN 1 ?_) fun c1 h=>xE
 refine k1 h (fun y3=>⟨58,0,ab [(4,.ptr 1 0),(6,.ptr 2 0),(33,sL (ax .i64) y1),(34,vI (y1.length:Int)),(35,vI a1)],[.gone,.var 39 [vN,vI 0,vI 0,vB false,vI 0,vI 0,vI 0,vN,vN,vB false,vN,vN,vN,vI 0,vU 0],.var 96 (ag y3.1++[.row 3 ((List.map ak y3.2).length)]),.row 63 6 (List.map ak y3.2)]⟩) (fun y3 h=>go ?_) fun y3 h=>cN
 refine bD h fun x1 q1 h=>⟨(af q1).1,_,al (ax .i64) (af q1).2,rfl,go ?_⟩
 refine cP h lock_Waits_walk fun y4 h=>go ?_
 refine cC h rfl (fun c2 h=>go ?_) fun c2 h=>cE
 exact cU h engine_work_ends_walk [2,3] fun y5 h=>cE
 exact cp.one 9 (.k [0,1,2,3,4,5,6,7] (.o 8 .fin)) [1,4,5,6,7,8,9] (by kernel_rfl) ⟨eF,⟨⟩⟩
def batch_Pairs_l2 (s:State) (a1:Int) (a2:(List Pair)):Option ((Int×(List Pair))⊕((List Pair))):=
 if (decide (a1<(s.Data.length:Int))) then
 (ix s.Data a1).bind fun x1=>
 aL (([100]:Str).length+x1.Key.length≤9223372036854775807)<|
 aL ((a2.length+1)*32≤140737488355328)<|
 some (.inl ((IntKind.i64.wrap (a1+1)),(a2++[(⟨([100]++x1.Key),x1.Val⟩:Pair)])))
 else
 some (.inr a2)
def batch_Pairs_l4 (s:State) (a1:Int) (a2:(List Pair)):Option ((Int×(List Pair))⊕((List Pair))):=
 if (decide (a1<(s.Toks.length:Int))) then
 (ix s.Toks a1).bind fun x1=>
 aL (([116]:Str).length+x1.Key.length≤9223372036854775807)<|
 aL ((a2.length+1)*32≤140737488355328)<|
 some (.inl ((IntKind.i64.wrap (a1+1)),(a2++[(⟨([116]++x1.Key),x1.Val⟩:Pair)])))
 else
 some (.inr a2)
def batch_Pairs (s:State):Option ((List Pair)):=
 (loop (fun (s1:Int×(List Pair))=>batch_Pairs_l2 s s1.1 s1.2) ((0:Int),([]:(List Pair)))).bind fun (y1:(List Pair))=>
 (loop (fun (s2:Int×(List Pair))=>batch_Pairs_l4 s s2.1 s2.2) ((0:Int),y1)).bind fun (y2:(List Pair))=>
 some y2
theorem batch_Pairs_walk {s r} (h:batch_Pairs s=some r):pP 110 [.agg (encState s)] (sL ac r):=by
 unfold batch_Pairs at h
 refine pW0 Tryz.func110 rfl fun g=>go ?_
 refine ⟨_,(aA _ _).symm,go ?_⟩
 refine lQ h (fun s1=>⟨43,0,ab [(1,.ptr 0 0),(3,.row 1 ((List.map ac s1.2).length)),(9,sL ac s.Data),(10,vI (s.Data.length:Int)),(11,vI s1.1)],[.var 29 (encState s),.row 103 2 (List.map ac s1.2)]⟩) (aO (.exit 0) (fun y1=>⟨43,0,ab [(1,.ptr 0 0),(3,.row 1 ((List.map ac y1).length))],[.var 29 (encState s),.row 103 2 (List.map ac y1)]⟩)) (bl.trans (weak_nil 3 103 2 rfl) wI) ?_ <|bO fun y1 _ h w=>wk w (go ?_)
 rintro y1 ⟨a1,a2⟩ v1 h r
 replace h:batch_Pairs_l2 s a1 a2=some v1:=h
 unfold batch_Pairs_l2 at h
 dsimp only
 refine go ?_
 refine cC h rfl (fun c1 h=>go ?_) fun c1 h=>xE
 refine bD h fun x1 q1 h=>⟨(af q1).1,_,al ac (af q1).2,rfl,go ?_⟩
 refine nD h fun p1 h=>⟨p1,_,dD _ _,List.map ac [(⟨([100]++x1.Key),x1.Val⟩:Pair)],rfl,rfl,rfl,go ?_⟩
 refine nD h fun p2 h=>⟨by simp only [List.length_map];exact p2,List.map ac (a2++[(⟨([100]++x1.Key),x1.Val⟩:Pair)]),dk ac _ _ rfl rfl,cN⟩
 refine ⟨_,(aA _ _).symm,go ?_⟩
 refine lQ h (fun s2=>⟨43,0,ab [(3,.row 1 ((List.map ac s2.2).length)),(26,sL ac s.Toks),(27,vI (s.Toks.length:Int)),(28,vI s2.1)],[.gone,.row 103 2 (List.map ac s2.2)]⟩) (aO (.exit 2) (fun y2=>⟨43,0,ab [(3,.row 1 ((List.map ac y2).length))],[.gone,.row 103 2 (List.map ac y2)]⟩)) (wF (.g .rest) (.all rfl)) ?_ <|bO fun y2 _ h w=>wk w eF
 rintro y2 ⟨a3,a4⟩ v2 h r
 replace h:batch_Pairs_l4 s a3 a4=some v2:=h
 unfold batch_Pairs_l4 at h
 dsimp only
 refine go ?_
 refine cC h rfl (fun c2 h=>go ?_) fun c2 h=>xE
 refine bD h fun x2 q2 h=>⟨(af q2).1,_,al ac (af q2).2,rfl,go ?_⟩
 refine nD h fun p3 h=>⟨p3,_,dD _ _,List.map ac [(⟨([116]++x2.Key),x2.Val⟩:Pair)],rfl,rfl,rfl,go ?_⟩
 refine nD h fun p4 h=>⟨by simp only [List.length_map];exact p4,List.map ac (a4++[(⟨([116]++x2.Key),x2.Val⟩:Pair)]),dk ac _ _ rfl rfl,cN⟩
def run_Bytes_l2 (l:(List Pair)) (a1:Int) (a2:Str):Option ((Int×Str)⊕(Str)):=
 if (decide (a1<(l.length:Int))) then
 (ix l a1).bind fun x1=>
 (dec_Text x1.Key).bind fun y1=>
 (dec_Text x1.Val).bind fun y2=>
 aL (y1.length+y2.length≤9223372036854775807)<|
 aL (0<(y1++y2).length∧a2.length+(y1++y2).length≤140737488355328)<|
 some (.inl ((IntKind.i64.wrap (a1+1)),(a2++(y1++y2))))
 else
 some (.inr a2)
def run_Bytes (l:(List Pair)):Option (Str×Int):=
 (run_may l).bind fun y1=>
 if (!y1) then some ([],1) else
 (dec_Num (IntKind.u64.wrap (l.length:Int))).bind fun y2=>
 aL (0<y2.length∧([]:Str).length+y2.length≤140737488355328)<|
 (loop (fun (s1:Int×Str)=>run_Bytes_l2 l s1.1 s1.2) ((0:Int),(([]:Str)++y2))).bind fun (y3:Str)=>
 aL (0<y3.length)<|
 (sum_Seal y3).bind fun y5=>
 some (y5,0)
theorem run_Bytes_walk {l r} (h:run_Bytes l=some r):pP 109 [sL ac l] (.tup [vS r.1,vI r.2]):=by
 unfold run_Bytes at h
 refine pW (G:=⟨tys,[120,123],[],[]⟩) ct mixed Tryz.func109 rfl fun g=>go ?_
 refine cP h run_may_walk fun y1 h=>go ?_
 refine cC h rfl (fun c1 h=>eF) fun c1 h=>gN 4 ?_
 refine dz.weak (show bl _ ⟨32,0,ab [(0,sL ac l),(2,vS []),(3,vI 0),(4,.ptr 0 0),(7,sL ac l),(8,vB y1),(9,vB false)],[.var 214 [.v (.pointer none),.row 1 ((List.map byteU ([]:Str)).length)],.row 5 1 (List.map byteU ([]:Str))]⟩ from bl.trans (dF 0 1 5 1 rfl rfl) wA) (go ?_)
 refine ⟨_,(aA _ _).symm,(IntKind.u64.wrap (l.length:Int)),rfl,go ?_⟩
 refine cP h dec_Num_walk fun y2 h=>go ?_
 obtain ⟨p1,h⟩:=au h
 refine mC (bwrite_120 (.inl rfl) ([]:Str) y2 p1) [0,1] (go ?_)
 refine ⟨_,(aA _ _).symm,go ?_⟩
 refine lQ h (fun s1=>⟨32,0,ab [(4,.ptr 0 0),(15,sL ac l),(16,vI (l.length:Int)),(17,vI s1.1)],[.var 214 [.ptr 0 0,.row 1 ((List.map byteU s1.2).length)],.row 5 1 (List.map byteU s1.2)]⟩) (aO (.exit 0) (fun y3=>⟨32,0,ab [(4,.ptr 0 0)],[.var 214 [.ptr 0 0,.row 1 ((List.map byteU y3).length)],.row 5 1 (List.map byteU y3)]⟩)) wA ?_ <|bO fun y3 _ h w=>wk w (go ?_)
 rintro y3 ⟨a1,a2⟩ v1 h r
 replace h:run_Bytes_l2 l a1 a2=some v1:=h
 unfold run_Bytes_l2 at h
 dsimp only
 refine go ?_
 refine cC h rfl (fun c2 h=>go ?_) fun c2 h=>xE
 refine bD h fun x1 q1 h=>⟨(af q1).1,_,al ac (af q1).2,rfl,go ?_⟩
 refine cp.one 8 (.k [0,1,3,4] (.o 2 (.o 5 (.k [6] (.o 7 .fin))))) [0] (by kernel_rfl) ⟨go ?_,⟨⟩⟩
 refine cP h dec_Text_walk fun y5 h=>⟨go ?_,⟨⟩⟩
 refine cP h dec_Text_walk fun y6 h=>go ?_
 refine nD h fun p2 h=>⟨p2,_,dD _ _,go ?_,⟨⟩⟩
 obtain ⟨p3,h⟩:=au h
 exact mC (bwrite_120 (.inr rfl) a2 (y5++y6) p3) [0,1] cN
 obtain ⟨p4,h⟩:=au h
 refine mC (bstr_123 (.ptr 0 0) y3 p4) [0,1] (go ?_)
 exact cP h sum_Seal_walk fun y8 h=>eF
def kv_Manifest (from_ run:Int):Option (Str):=
 (dec_Num (IntKind.u64.wrap (if from_<0 then 0 else from_))).bind fun y1=>
 (dec_Num (IntKind.u64.wrap (if run<0 then 0 else run))).bind fun y2=>
 aL (y1.length+y2.length≤9223372036854775807)<|
 (sum_Seal (y1++y2)).bind fun y4=>
 some y4
theorem kv_Manifest_walk {from_ run r} (h:kv_Manifest from_ run=some r):pP 111 [vI from_,vI run] (vS r):=by
 unfold kv_Manifest at h
 refine pW0 Tryz.func111 rfl fun g=>go ?_
 refine ⟨(IntKind.u64.wrap (if from_<0 then 0 else from_)),rfl,go ?_⟩
 refine cP h dec_Num_walk fun y1 h=>⟨(IntKind.u64.wrap (if run<0 then 0 else run)),rfl,go ?_⟩
 refine cP h dec_Num_walk fun y2 h=>go ?_
 refine nD h fun p1 h=>⟨p1,_,dD _ _,go ?_⟩
 exact cP h sum_Seal_walk fun y4 h=>eF
def run_Lay (d:Disk) (name s:Str):Option (Disk×Int):=
 aL (([110,46]:Str).length+name.length≤9223372036854775807)<|
 ((disk_Find d ([110,46]++name)).bind fun y1=>
 if y1.2 then
 (disk_Delete d ([110,46]++name)).bind fun y2=>
 if (!(decide (y2.2=0))) then some (.inr (y2.2,y2.1.Files,y2.1.Room,y2.1.Fuse,y2.1.Off)) else
 some (.inl (y2.1.Files,y2.1.Room,y2.1.Fuse,y2.1.Off))
 else
 some (.inl (d.Files,d.Room,d.Fuse,d.Off))).bind fun (y3:((List File)×Int×Int×Bool)⊕(Int×(List File)×Int×Int×Bool))=>
 match y3 with
 |(.inl v1)=>
  (disk_Append (⟨v1.1,v1.2.1,v1.2.2.1,v1.2.2.2⟩:Disk) ([110,46]++name) s).bind fun y4=>
  if (!(decide (y4.2=0))) then some (y4.1,y4.2) else
  (disk_Sync y4.1 ([110,46]++name)).bind fun y5=>
  if (!(decide (y5.2=0))) then some (y5.1,y5.2) else
  (disk_Rename y5.1 ([110,46]++name) name).bind fun y6=>
  some (y6.1,y6.2)
 |(.inr v2)=>
 some ((⟨v2.2.1,v2.2.2.1,v2.2.2.2.1,v2.2.2.2.2⟩:Disk),v2.1)
theorem run_Lay_walk {d name s r} (h:run_Lay d name s=some r):pP 112 [.agg (aG d),vS name,vS s] (.tup [.agg (aG r.1),vI r.2]):=by
 unfold run_Lay at h
 refine pW0 Tryz.func112 rfl fun g=>go ?_
 refine nD h fun p1 h=>⟨p1,_,dD _ _,gN 0 ?_⟩
 refine kS h (Sum.elim (aO .normal (fun v1=>⟨61,0,ab [(1,vS name),(2,vS s),(3,.ptr 0 0),(6,.ptr 1 0),(8,vS ([110,46]++name))],[.var 26 [sL ar v1.1,vI v1.2.1,vI v1.2.2.1,vB v1.2.2.2],.var 26 [vN,vI 0,vI 0,vB false]]⟩)) (aO .ret (fun v2=>⟨61,0,ab [(6,.ptr 1 0),(7,vI v2.1)],[.gone,.var 26 [sL ar v2.2.1,vI v2.2.2.1,vI v2.2.2.2.1,vB v2.2.2.2.2]]⟩))) (fun y1 h=>go ?_)<|bE (bO fun v1 _ h w=>wk w (go ?_))<|bO fun v2 _ h w=>eFw
 refine cP h cg fun y2 h=>go ?_
 refine cC h rfl (fun c1 h=>go ?_) fun c1 h=>cE
 refine cP h disk_Delete_walk fun y3 h=>go ?_
 refine cC h rfl (fun c2 h=>go ?_) fun c2 h=>cE
 cases h
 exact ⟨rfl,(wF (.g .rest) (.all rfl))⟩
 refine cP h disk_Append_walk fun y4 h=>go ?_
 refine cC h rfl (fun c3 h=>eF) fun c3 h=>go ?_
 refine cP h disk_Sync_walk fun y5 h=>go ?_
 refine cC h rfl (fun c4 h=>eF) fun c4 h=>go ?_
 exact cP h disk_Rename_walk fun y6 h=>eF
def wal_Drop_l2 (to a1:Int) (a2:(List File)) (a3 a4:Int) (a5:Bool):Option ((Int×(List File)×Int×Int×Bool)⊕((Int×(List File)×Int×Int×Bool)⊕((List File)×Int×Int×Bool))):=
 (if (decide (a1<to)) then
 (wal_may a1).bind fun y1=>
 some y1
 else
 some false).bind fun (y2:Bool)=>
 if y2 then
 ((wal_Name a1).bind fun y3=>
 (disk_Find (⟨a2,a3,a4,a5⟩:Disk) y3).bind fun y4=>
 if (!y4.2) then some (.inl (a2,a3,a4,a5)) else
 (disk_Delete (⟨a2,a3,a4,a5⟩:Disk) y3).bind fun y5=>
 if (!(decide (y5.2=0))) then some (.inr (y5.2,y5.1.Files,y5.1.Room,y5.1.Fuse,y5.1.Off)) else
 some (.inl (y5.1.Files,y5.1.Room,y5.1.Fuse,y5.1.Off))).bind fun (y6:((List File)×Int×Int×Bool)⊕(Int×(List File)×Int×Int×Bool))=>
 match y6 with
 |(.inl v1)=>
  some (.inl ((IntKind.i64.wrap (a1+1)),v1.1,v1.2.1,v1.2.2.1,v1.2.2.2))
 |(.inr v2)=>
 some (.inr (.inl (v2.1,v2.2.1,v2.2.2.1,v2.2.2.2.1,v2.2.2.2.2)))
 else
 some (.inr (.inr (a2,a3,a4,a5)))
def wal_Drop (d:Disk) (from_ to:Int):Option (Disk×Int):=
 (loop (fun (s1:Int×(List File)×Int×Int×Bool)=>wal_Drop_l2 to s1.1 s1.2.1 s1.2.2.1 s1.2.2.2.1 s1.2.2.2.2) ((if from_<1 then 1 else from_),d.Files,d.Room,d.Fuse,d.Off)).bind fun (y1:(Int×(List File)×Int×Int×Bool)⊕((List File)×Int×Int×Bool))=>
 match y1 with
 |(.inl v1)=>
  some ((⟨v1.2.1,v1.2.2.1,v1.2.2.2.1,v1.2.2.2.2⟩:Disk),v1.1)
 |(.inr v2)=>
 some ((⟨v2.1,v2.2.1,v2.2.2.1,v2.2.2.2⟩:Disk),0)
theorem wal_Drop_walk {d from_ to r} (h:wal_Drop d from_ to=some r):pP 166 [.agg (aG d),vI from_,vI to] (.tup [.agg (aG r.1),vI r.2]):=by
 unfold wal_Drop at h
 refine pW0 Tryz.func166 rfl fun g=>go ?_
 refine lQ h (fun s1=>⟨46,0,ab [(2,vI to),(3,.ptr 0 0),(6,.ptr 1 0),(8,vI s1.1)],[.var 26 [sL ar s1.2.1,vI s1.2.2.1,vI s1.2.2.2.1,vB s1.2.2.2.2],.var 26 [vN,vI 0,vI 0,vB false]]⟩) (Sum.elim (aO .ret (fun v1=>⟨46,0,ab [(6,.ptr 1 0),(7,vI v1.1)],[.gone,.var 26 [sL ar v1.2.1,vI v1.2.2.1,vI v1.2.2.2.1,vB v1.2.2.2.2]]⟩)) (aO (.exit 0) (fun v2=>⟨46,0,ab [(3,.ptr 0 0),(6,.ptr 1 0)],[.var 26 [sL ar v2.1,vI v2.2.1,vI v2.2.2.1,vB v2.2.2.2],.var 26 [vN,vI 0,vI 0,vB false]]⟩))) wA ?_ <|bE (bO fun v1 _ h w=>eFw)<|bO fun v2 _ h w=>wk w eF
 rintro y1 ⟨a1,a2,a3,a4,a5⟩ v3 h r
 replace h:wal_Drop_l2 to a1 a2 a3 a4 a5=some v3:=h
 unfold wal_Drop_l2 at h
 dsimp only
 refine gN 1 ?_
 refine k1 h (fun y2=>⟨46,0,ab [(2,vI to),(3,.ptr 0 0),(6,.ptr 1 0),(8,vI a1),(21,vB y2)],[.var 26 [sL ar a2,vI a3,vI a4,vB a5],.var 26 [vN,vI 0,vI 0,vB false]]⟩) (fun y2 h=>go ?_) fun y2 h=>(cC h rfl (fun c1 h=>gN 1 ?_) fun c1 h=>xE)
 refine cM h (fun c2 h=>go ?_) fun c2 h=>cE
 exact cP h wal_may_walk fun y3 h=>cE
 refine kS h (Sum.elim (aO .normal (fun v4=>⟨46,0,ab [(2,vI to),(3,.ptr 0 0),(6,.ptr 1 0),(8,vI a1)],[.var 26 [sL ar v4.1,vI v4.2.1,vI v4.2.2.1,vB v4.2.2.2],.var 26 [vN,vI 0,vI 0,vB false]]⟩)) (aO .ret (fun v5=>⟨46,0,ab [(6,.ptr 1 0),(7,vI v5.1)],[.gone,.var 26 [sL ar v5.2.1,vI v5.2.2.1,vI v5.2.2.2.1,vB v5.2.2.2.2]]⟩))) (fun y4 h=>go ?_)<|bE (bO fun v4 _ h w=>wk w cN)<|bO fun v5 _ h w=>xEw
 obtain ⟨y5,q1,h⟩:=bind_some h
 obtain ⟨y6,q2,h⟩:=bind_some h
 refine cp.many 9 (.k [0,1] (.alt 2 (.alt 3 (.k [4,5,6] (.o 7 (.o 8 .fin))) (.o 7 (.o 3 (.k [4,5,6] (.o 8 .fin))))) (.o 7 (.o 2 (.o 3 (.k [4,5,6] (.o 8 .fin))))))) [2,3,4,5,6,7] (⟨46,0,ab [(2,vI to),(3,.ptr 0 0),(6,.ptr 1 0),(8,vI a1),(30,vB y6.2)],[.var 26 [sL ar a2,vI a3,vI a4,vB a5],.var 26 [vN,vI 0,vI 0,vB false]]⟩) (by kernel_rfl) ⟨go ?_,⟨⟨go ?_,⟨⟩⟩,⟨⟩⟩⟩ (go ?_)
 refine mP (bp q1) ⟨go ?_,⟨⟨go ?_,⟨⟩⟩,⟨⟩⟩⟩
 exact mP (cg q2) ⟨⟨cA,⟨⟩⟩,⟨⟩⟩
 exact mP (cg q2) ⟨cA,⟨⟩⟩
 refine mP (bp q1) ⟨go ?_,⟨⟩⟩
 exact mP (cg q2) ⟨cA,⟨⟩⟩
 refine cC h rfl (fun c3 h=>cE) fun c3 h=>go ?_
 obtain ⟨y7,q3,h⟩:=bind_some h
 refine cp.many 9 (.k [0,1] (.alt 2 (.alt 3 (.k [4,5,6] (.o 7 (.o 8 .fin))) (.o 7 (.o 3 (.k [4,5,6] (.o 8 .fin))))) (.o 7 (.o 2 (.o 3 (.k [4,5,6] (.o 8 .fin))))))) [2,3,4,5,6,7] (⟨46,0,ab [(2,vI to),(3,.ptr 0 0),(6,.ptr 1 0),(8,vI a1),(11,.ptr 2 0),(39,vI y7.2)],[.var 26 [sL ar a2,vI a3,vI a4,vB a5],.var 26 [vN,vI 0,vI 0,vB false],.var 26 (aG y7.1)]⟩) (by kernel_rfl) ⟨go ?_,⟨⟨go ?_,⟨⟩⟩,⟨⟩⟩⟩ (go ?_)
 refine mP (bp q1) ⟨go ?_,⟨⟨go ?_,⟨⟩⟩,⟨⟩⟩⟩
 exact mP (disk_Delete_walk q3) ⟨⟨cA,⟨⟩⟩,⟨⟩⟩
 exact mP (disk_Delete_walk q3) ⟨cA,⟨⟩⟩
 refine mP (bp q1) ⟨go ?_,⟨⟩⟩
 exact mP (disk_Delete_walk q3) ⟨cA,⟨⟩⟩
 refine cC h rfl (fun c4 h=>go ?_) fun c4 h=>cE
 cases h
 exact ⟨rfl,(wF (.g .rest) (.all rfl))⟩
def kv_old (x:Store) (from_:Int):Option ((Store)⊕(Store×Int)⊕(Store×Int)):=
 (kv_RunName (IntKind.i64.wrap (x.Run - 1))).bind fun y1=>
 ((disk_Find x.D y1).bind fun y2=>
 if y2.2 then
 (disk_Delete x.D y1).bind fun y3=>
 if (!(decide (y3.2=0))) then
 (kv_fails y3.2).bind fun y4=>
 match y4 with
 |(.inl y5)=>
  some (.inr (.inl (y3.1.Files,y3.1.Room,y3.1.Fuse,y3.1.Off)))
 |(.inr (.inl y6))=>
  some (.inr (.inr (.inl (y6,y3.1.Files,y3.1.Room,y3.1.Fuse,y3.1.Off))))
 |(.inr (.inr y7))=>
 some (.inr (.inr (.inr (y7,y3.1.Files,y3.1.Room,y3.1.Fuse,y3.1.Off))))
 else
 some (.inl (y3.1.Files,y3.1.Room,y3.1.Fuse,y3.1.Off))
 else
 some (.inl (x.D.Files,x.D.Room,x.D.Fuse,x.D.Off)):Option (((List File)×Int×Int×Bool)⊕((List File)×Int×Int×Bool)⊕(Int×(List File)×Int×Int×Bool)⊕(Int×(List File)×Int×Int×Bool))).bind fun y8=>
 match y8 with
 |(.inl v1)=>
  (wal_Drop (⟨v1.1,v1.2.1,v1.2.2.1,v1.2.2.2⟩:Disk) from_ x.From).bind fun y9=>
  (kv_fails y9.2).bind fun y10=>
  match y10 with
  |(.inl y11)=>
   some (.inl (⟨y9.1,x.From,x.Seg,x.Run,x.S,x.Down⟩:Store))
  |(.inr (.inl y12))=>
   some (.inr (.inl ((⟨y9.1,x.From,x.Seg,x.Run,x.S,x.Down⟩:Store),y12)))
  |(.inr (.inr y13))=>
  some (.inr (.inr ((⟨y9.1,x.From,x.Seg,x.Run,x.S,x.Down⟩:Store),y13)))
 |(.inr (.inl v2))=>
  some (.inl (⟨(⟨v2.1,v2.2.1,v2.2.2.1,v2.2.2.2⟩:Disk),x.From,x.Seg,x.Run,x.S,x.Down⟩:Store))
 |(.inr (.inr (.inl v3)))=>
  some (.inr (.inl ((⟨(⟨v3.2.1,v3.2.2.1,v3.2.2.2.1,v3.2.2.2.2⟩:Disk),x.From,x.Seg,x.Run,x.S,x.Down⟩:Store),v3.1)))
 |(.inr (.inr (.inr v4)))=>
 some (.inr (.inr ((⟨(⟨v4.2.1,v4.2.2.1,v4.2.2.2.1,v4.2.2.2.2⟩:Disk),x.From,x.Seg,x.Run,x.S,x.Down⟩:Store),v4.1)))
theorem kv_old_walk {x from_ r} (h:kv_old x from_=some r):PureP Tryz.prog 113 [.agg (encStore x),vI from_] (fun a=>match r with|(.inl r)=>a= .tup [.agg (encStore r),.v .nilIface]|(.inr (.inl r))=>a= .tup [.agg (encStore r.1),.ifc 224 (.agg [vI r.2,.ifc 222 (.agg [])])]|(.inr (.inr r))=>a= .tup [.agg (encStore r.1),.ifc 224 (.agg [vI r.2,.v .nilIface])]):=by
 unfold kv_old at h
 refine pW0 Tryz.func113 rfl fun g=>go ?_
 refine cP h kv_RunName_walk fun y1 h=>gN 0 ?_
 refine kS h (Sum.elim (aO .normal (fun v1=>⟨53,0,ab [(1,vI from_),(2,.ptr 0 0),(4,.ptr 1 0)],[.var 31 [sL ar v1.1,vI v1.2.1,vI v1.2.2.1,vB v1.2.2.2,vI x.From,vI x.Seg,vI x.Run,sL ac x.S.Data,sL ac x.S.Toks,vB x.Down],.var 31 [vN,vI 0,vI 0,vB false,vI 0,vI 0,vI 0,vN,vN,vB false]]⟩)) (Sum.elim (aO .ret (fun v2=>⟨53,0,ab [(4,.ptr 1 0),(5,.v .nilIface)],[.gone,.var 31 [sL ar v2.1,vI v2.2.1,vI v2.2.2.1,vB v2.2.2.2,vI x.From,vI x.Seg,vI x.Run,sL ac x.S.Data,sL ac x.S.Toks,vB x.Down]]⟩)) (Sum.elim (aO .ret (fun v3=>⟨53,0,ab [(4,.ptr 1 0),(5,.ifc 224 (.agg [vI v3.1,.ifc 222 (.agg [])]))],[.gone,.var 31 [sL ar v3.2.1,vI v3.2.2.1,vI v3.2.2.2.1,vB v3.2.2.2.2,vI x.From,vI x.Seg,vI x.Run,sL ac x.S.Data,sL ac x.S.Toks,vB x.Down]]⟩)) (aO .ret (fun v4=>⟨53,0,ab [(4,.ptr 1 0),(5,.ifc 224 (.agg [vI v4.1,.v .nilIface]))],[.gone,.var 31 [sL ar v4.2.1,vI v4.2.2.1,vI v4.2.2.2.1,vB v4.2.2.2.2,vI x.From,vI x.Seg,vI x.Run,sL ac x.S.Data,sL ac x.S.Toks,vB x.Down]]⟩))))) (fun y2 h=>go ?_)<|bE (bO fun v1 _ h w=>wk w (go ?_)) (bE (bO fun v2 _ h w=>eFw) (bE (bO fun v3 _ h w=>eFw)<|bO fun v4 _ h w=>eFw))
 refine cP h cg fun y3 h=>go ?_
 refine cC h rfl (fun c1 h=>go ?_) fun c1 h=>cE
 refine cP h disk_Delete_walk fun y4 h=>go ?_
 refine cC h rfl (fun c2 h=>go ?_) fun c2 h=>cE
 refine cp.one 3 (.k [0,1] (.o 2 .fin)) [] (by kernel_rfl) ⟨go ?_,⟨⟩⟩
 obtain ⟨y5,q1,h⟩:=bind_some h
 refine PureP.mono (kv_fails_walk q1) ?_
 rcases y5 with y6|y7|y8
 dsimp only at h
 rintro _ rfl
 refine go ?_
 cases h
 exact ⟨rfl,(wF (.g .rest) (.all rfl))⟩
 dsimp only at h
 rintro _ rfl
 refine go ?_
 cases h
 exact ⟨rfl,(wF (.g .rest) (.all rfl))⟩
 dsimp only at h
 rintro _ rfl
 refine go ?_
 cases h
 exact ⟨rfl,(wF (.g .rest) (.all rfl))⟩
 refine cP h wal_Drop_walk fun y9 h=>go ?_
 refine cp.one 3 (.k [0,1] (.o 2 .fin)) [] (by kernel_rfl) ⟨go ?_,⟨⟩⟩
 obtain ⟨y10,q2,h⟩:=bind_some h
 refine PureP.mono (kv_fails_walk q2) ?_
 rcases y10 with y11|y12|y13
 dsimp only at h
 rintro _ rfl
 exact eF
 dsimp only at h
 rintro _ rfl
 exact eF
 dsimp only at h
 rintro _ rfl
 exact eF
def kv_told_3 (x:Store):Option (Store×Int):=
 some (x,0)
theorem kv_told_3_walk {x r} (h:kv_told_3 x=some r):pP 76 [.agg (encStore x),.v .nilIface] (.tup [.agg (encStore r.1),vI r.2]):=by
 unfold kv_told_3 at h
 refine pW (G:=⟨tys,[127],[],[]⟩) ct mixed Tryz.func76 rfl fun g=>go ?_
 refine mC (callP_asnil (dy Tryz.func127 rfl (by kernel_rfl)) as_nil [.var 224 [vI 0,.v .nilIface]] (.ifc 226 (.ptr 0 0))) [2] (go ?_)
 exact dz.condT rfl eF
def kv_Check_l2 (x:Store) (y1:Str×Int) (y2 y3:Str) (a1:Int) (a2:(List File)) (a3 a4:Int) (a5:Bool):Option ((Int×(List File)×Int×Int×Bool)⊕((Int×(List File)×Int×Int×Bool×Int×Int×Int×(List Pair)×(List Pair)×Bool)⊕((List File)×Int×Int×Bool))):=
 if (decide (a1<([(y2,y1.1),([109],y3)].length:Int))) then
 (ix [(y2,y1.1),([109],y3)] a1).bind fun x1=>
 (run_Lay (⟨a2,a3,a4,a5⟩:Disk) x1.1 x1.2).bind fun y4=>
 (kv_fails y4.2).bind fun y5=>
 match y5 with
 |(.inl y6)=>
  some (.inl ((IntKind.i64.wrap (a1+1)),y4.1.Files,y4.1.Room,y4.1.Fuse,y4.1.Off))
 |(.inr (.inl y7))=>
  (kv_told (⟨y4.1,x.From,x.Seg,x.Run,x.S,x.Down⟩:Store) y7).bind fun y8=>
  some (.inr (.inl (y8.2,y8.1.D.Files,y8.1.D.Room,y8.1.D.Fuse,y8.1.D.Off,y8.1.From,y8.1.Seg,y8.1.Run,y8.1.S.Data,y8.1.S.Toks,y8.1.Down)))
 |(.inr (.inr y9))=>
 (kv_told_2 (⟨y4.1,x.From,x.Seg,x.Run,x.S,x.Down⟩:Store) y9).bind fun y10=>
 some (.inr (.inl (y10.2,y10.1.D.Files,y10.1.D.Room,y10.1.D.Fuse,y10.1.D.Off,y10.1.From,y10.1.Seg,y10.1.Run,y10.1.S.Data,y10.1.S.Toks,y10.1.Down)))
 else
 some (.inr (.inr (a2,a3,a4,a5)))
def kv_Check (x:Store):Option (Store×Int):=
 if x.Down then some (x,6) else
 if ((decide (x.Seg≥1000000))||(decide (x.Run≥1000000))) then some (x,5) else
 (batch_Pairs x.S).bind fun y1=>
 (run_Bytes y1).bind fun y2=>
 if (!(decide (y2.2=0))) then some (x,y2.2) else
 (kv_RunName (IntKind.i64.wrap (x.Run+1))).bind fun y3=>
 (kv_Manifest (IntKind.i64.wrap (x.Seg+1)) (IntKind.i64.wrap (x.Run+1))).bind fun y4=>
 (loop (fun (s1:Int×(List File)×Int×Int×Bool)=>kv_Check_l2 x y2 y3 y4 s1.1 s1.2.1 s1.2.2.1 s1.2.2.2.1 s1.2.2.2.2) ((0:Int),x.D.Files,x.D.Room,x.D.Fuse,x.D.Off)).bind fun (y5:(Int×(List File)×Int×Int×Bool×Int×Int×Int×(List Pair)×(List Pair)×Bool)⊕((List File)×Int×Int×Bool))=>
 match y5 with
 |(.inl v1)=>
  some ((⟨(⟨v1.2.1,v1.2.2.1,v1.2.2.2.1,v1.2.2.2.2.1⟩:Disk),v1.2.2.2.2.2.1,v1.2.2.2.2.2.2.1,v1.2.2.2.2.2.2.2.1,(⟨v1.2.2.2.2.2.2.2.2.1,v1.2.2.2.2.2.2.2.2.2.1⟩:State),v1.2.2.2.2.2.2.2.2.2.2⟩:Store),v1.1)
 |(.inr v2)=>
 (kv_old (⟨(⟨v2.1,v2.2.1,v2.2.2.1,v2.2.2.2⟩:Disk),(IntKind.i64.wrap (x.Seg+1)),(IntKind.i64.wrap (x.Seg+1)),(IntKind.i64.wrap (x.Run+1)),x.S,x.Down⟩:Store) x.From).bind fun y6=>
 match y6 with
 |(.inl y7)=>
  (kv_told_3 y7).bind fun y8=>
  some (y8.1,y8.2)
 |(.inr (.inl y9))=>
  (kv_told y9.1 y9.2).bind fun y10=>
  some (y10.1,y10.2)
 |(.inr (.inr y11))=>
 (kv_told_2 y11.1 y11.2).bind fun y12=>
 some (y12.1,y12.2)
theorem kv_Check_walk {x r} (h:kv_Check x=some r):pP 68 [.agg (encStore x)] (.tup [.agg (encStore r.1),vI r.2]):=by
 unfold kv_Check at h
 refine pW0 Tryz.func68 rfl fun g=>go ?_
 refine cC h rfl (fun c1 h=>eF) fun c1 h=>(k0 ⟨100,0,ab [(1,.ptr 0 0),(2,.ptr 1 0),(16,vB ((decide (x.Seg≥1000000))||(decide (x.Run≥1000000))))],[.var 31 (encStore x),.var 31 [vN,vI 0,vI 0,vB false,vI 0,vI 0,vI 0,vN,vN,vB false]]⟩ (go ?_) ((cC h rfl (fun c2 h=>eF) fun c2 h=>go ?_)))
 exact cK (decide (x.Seg≥1000000)) (fun i1=>cI) fun i1=>cI
 refine cP h batch_Pairs_walk fun y1 h=>go ?_
 refine cP h run_Bytes_walk fun y2 h=>go ?_
 refine cC h rfl (fun c3 h=>eF) fun c3 h=>go ?_
 refine cp.one 13 (.k [0,2,4,5,6,7,12] (.o 1 (.k [3] (.o 8 (.k [9] (.o 10 (.k [11] .fin))))))) [] (by kernel_rfl) ⟨go ?_,⟨⟩⟩
 refine cP h kv_RunName_walk fun y3 h=>⟨go ?_,⟨⟩⟩
 refine cP h kv_Manifest_walk fun y4 h=>⟨⟨List.map encA201 [(y3,y2.1),([109],y4)],rfl,rfl,([(y3,y2.1),([109],y4)].length:Int),by simp,go ?_⟩,⟨⟩⟩
 refine lQ h (fun s1=>⟨100,0,ab [(1,.ptr 0 0),(2,.ptr 1 0),(6,vI (IntKind.i64.wrap (x.Run+1))),(50,.row 2 ((List.map encA201 [(y3,y2.1),([109],y4)]).length)),(51,vI ([(y3,y2.1),([109],y4)].length:Int)),(52,vI s1.1)],[.var 31 [sL ar s1.2.1,vI s1.2.2.1,vI s1.2.2.2.1,vB s1.2.2.2.2,vI x.From,vI x.Seg,vI x.Run,sL ac x.S.Data,sL ac x.S.Toks,vB x.Down],.var 31 [vN,vI 0,vI 0,vB false,vI 0,vI 0,vI 0,vN,vN,vB false],.row 201 2 (List.map encA201 [(y3,y2.1),([109],y4)])]⟩) (Sum.elim (aO .ret (fun v1=>⟨100,0,ab [(2,.ptr 1 0),(3,vI v1.1)],[.gone,.var 31 [sL ar v1.2.1,vI v1.2.2.1,vI v1.2.2.2.1,vB v1.2.2.2.2.1,vI v1.2.2.2.2.2.1,vI v1.2.2.2.2.2.2.1,vI v1.2.2.2.2.2.2.2.1,sL ac v1.2.2.2.2.2.2.2.2.1,sL ac v1.2.2.2.2.2.2.2.2.2.1,vB v1.2.2.2.2.2.2.2.2.2.2]]⟩)) (aO (.exit 1) (fun v2=>⟨100,0,ab [(1,.ptr 0 0),(2,.ptr 1 0),(6,vI (IntKind.i64.wrap (x.Run+1)))],[.var 31 [sL ar v2.1,vI v2.2.1,vI v2.2.2.1,vB v2.2.2.2,vI x.From,vI x.Seg,vI x.Run,sL ac x.S.Data,sL ac x.S.Toks,vB x.Down],.var 31 [vN,vI 0,vI 0,vB false,vI 0,vI 0,vI 0,vN,vN,vB false]]⟩))) wI ?_ <|bE (bO fun v1 _ h w=>eFw)<|bO fun v2 _ h w=>wk w (go ?_)
 rintro y5 ⟨a1,a2,a3,a4,a5⟩ v3 h r
 replace h:kv_Check_l2 x y2 y3 y4 a1 a2 a3 a4 a5=some v3:=h
 unfold kv_Check_l2 at h
 dsimp only
 refine go ?_
 refine cC h rfl (fun c4 h=>go ?_) fun c4 h=>xE
 obtain ⟨x1,q1,h⟩:=bind_some h
 refine ⟨⟨rfl,(bX q1).1,by have:=bX q1;simp only [List.length_map,List.length_set,List.length_cons,List.length_nil] at*;omega⟩,?_⟩
 refine ⟨rfl,_,al encA201 (af q1).2,go ?_⟩
 refine ⟨by decide,by decide,go ?_⟩
 refine cP h run_Lay_walk fun y6 h=>go ?_
 obtain ⟨y7,q2,h⟩:=bind_some h
 refine PureP.mono (kv_fails_walk q2) ?_
 rcases y7 with y8|y9|y10
 dsimp only at h
 rintro _ rfl
 refine go ?_
 exact dz.condF rfl cN
 dsimp only at h
 rintro _ rfl
 refine go ?_
 refine dz.condT rfl (go ?_)
 refine cP h kv_told_walk fun y11 h=>go ?_
 cases h
 obtain rfl:=r _ rfl
 exact ⟨rfl,(wF (.g .rest) (.all rfl))⟩
 dsimp only at h
 rintro _ rfl
 refine go ?_
 refine dz.condT rfl (go ?_)
 refine cP h kv_told_2_walk fun y12 h=>go ?_
 cases h
 obtain rfl:=r _ rfl
 exact ⟨rfl,(wF (.g .rest) (.all rfl))⟩
 obtain ⟨y13,q3,h⟩:=bind_some h
 refine PureP.mono (kv_old_walk q3) ?_
 rcases y13 with y14|y16|y18
 dsimp only at h
 rintro _ rfl
 refine go ?_
 exact cP h kv_told_3_walk fun y19 h=>eF
 dsimp only at h
 rintro _ rfl
 refine go ?_
 exact cP h kv_told_walk fun y20 h=>eF
 dsimp only at h
 rintro _ rfl
 refine go ?_
 exact cP h kv_told_2_walk fun y21 h=>eF
def engine_Check (e:Engine):Option (Engine×Int):=
 (kv_Check e.X).bind fun y1=>
 some ((⟨y1.1,e.L,e.T,e.Next,e.Now⟩:Engine),y1.2)
theorem engine_Check_walk {e r} (h:engine_Check e=some r):pP 43 [.agg (ag e)] (.tup [.agg (ag r.1),vI r.2]):=by
 unfold engine_Check at h
 refine pW0 Tryz.func43 rfl fun g=>go ?_
 exact cP h kv_Check_walk fun y1 h=>eF
def law13_keeps_l2 (e:Engine) (n a1:Int) (a2:(List Int)):Option ((Int×(List Int))⊕((List Int))):=
 if (decide (a1<(e.X.D.Files.length:Int))) then
 aL ((a2.length+1)*8≤140737488355328)<|
 some (.inl ((IntKind.i64.wrap (a1+1)),(a2++[n])))
 else
 some (.inr a2)
def law13_keeps (e:Engine) (n:Int):Option ((List Int)):=
 (loop (fun (s1:Int×(List Int))=>law13_keeps_l2 e n s1.1 s1.2) ((0:Int),([]:(List Int)))).bind fun (y1:(List Int))=>
 some y1
theorem law13_keeps_walk {e n r} (h:law13_keeps e n=some r):pP 44 [.agg (ag e),vI n] (sL (ax .i64) r):=by
 unfold law13_keeps at h
 refine pW0 Tryz.func44 rfl fun g=>go ?_
 refine lQ h (fun s1=>⟨21,0,ab [(1,vI n),(2,.ptr 0 0),(5,.row 1 ((List.map (ax .i64) s1.2).length)),(6,vI s1.1)],[.var 39 (ag e),.row 3 1 (List.map (ax .i64) s1.2)]⟩) (aO (.exit 0) (fun y1=>⟨21,0,ab [(5,.row 1 ((List.map (ax .i64) y1).length))],[.gone,.row 3 1 (List.map (ax .i64) y1)]⟩)) (bl.trans (weak_nil 5 3 1 rfl) wI) ?_ <|bO fun y1 _ h w=>wk w eF
 rintro y1 ⟨a1,a2⟩ v1 h r
 replace h:law13_keeps_l2 e n a1 a2=some v1:=h
 unfold law13_keeps_l2 at h
 dsimp only
 refine go ?_
 refine ⟨_,(aA _ _).symm,go ?_⟩
 refine cC h rfl (fun c1 h=>go ?_) fun c1 h=>go ?_
 refine ⟨List.map (ax .i64) [n],rfl,rfl,rfl,go ?_⟩
 refine nD h fun p1 h=>⟨by simp only [List.length_map];exact p1,List.map (ax .i64) (a2++[n]),dk (ax .i64) _ _ rfl rfl,cN⟩
 cases h
 obtain rfl:=r _ rfl
 exact ⟨rfl,(wF (.g .rest) (.all rfl))⟩
def disk_Crash_l2 (d:Disk) (keeps:(List Int)) (a1 a2:Int) (a3:(List File)):Option ((Int×Int×(List File))⊕(Int×(List File))):=
 if (decide (a1<(d.Files.length:Int))) then
 (ix a3 a1).bind fun x1=>
 (if (decide (a1<(keeps.length:Int))) then
 (ix keeps a1).bind fun x2=>
 some (if (x1.Wait.length:Int)<(if x2<0 then 0 else x2) then (x1.Wait.length:Int) else (if x2<0 then 0 else x2))
 else
 some 0).bind fun (y1:Int)=>
 aL ((0:Int)≤(0:Int)∧0≤y1∧y1≤(x1.Wait.length:Int))<|
 aL (x1.Safe.length+(cut x1.Wait 0 y1).length≤9223372036854775807)<|
 some (.inl ((IntKind.i64.wrap (a1+1)),(IntKind.i64.wrap (a2+(IntKind.i64.wrap ((x1.Wait.length:Int) - y1)))),(List.set a3 (a1).toNat (⟨x1.Name,(x1.Safe++(cut x1.Wait 0 y1)),[]⟩:File))))
 else
 some (.inr (a2,a3))
def disk_Crash (d:Disk) (keeps:(List Int)):Option (Disk):=
 aL (d.Files.length*48≤140737488355328)<|
 (loop (fun (s1:Int×Int×(List File))=>disk_Crash_l2 d keeps s1.1 s1.2.1 s1.2.2) ((0:Int),d.Room,d.Files)).bind fun (y1:Int×(List File))=>
 some (⟨y1.2,y1.1,(-1),false⟩:Disk)
theorem disk_Crash_walk {d keeps r} (h:disk_Crash d keeps=some r):pP 34 [.agg (aG d),sL (ax .i64) keeps] (.agg (aG r)):=by
 unfold disk_Crash at h
 refine pW (G:=⟨tys,[],[(60,135,3)],[]⟩) ct mixed Tryz.func34 rfl fun g=>go ?_
 obtain ⟨p1,h⟩:=au h
 refine mF (clone_60 d.Files p1) (go ?_)
 refine ⟨rfl,(d.Files.length:Int),by simp,go ?_⟩
 refine lQ h (fun s1=>⟨60,0,ab [(1,sL (ax .i64) keeps),(2,.ptr 0 0),(4,.ptr 1 0),(13,.row 2 ((List.map ar s1.2.2).length)),(14,vI (d.Files.length:Int)),(15,vI s1.1)],[.var 26 [.row 2 ((List.map ar s1.2.2).length),vI s1.2.1,vI d.Fuse,vB d.Off],.var 26 [vN,vI 0,vI 0,vB false],.row 135 3 (List.map ar s1.2.2)]⟩) (aO (.exit 0) (fun y1=>⟨60,0,ab [(2,.ptr 0 0),(4,.ptr 1 0)],[.var 26 [.row 2 ((List.map ar y1.2).length),vI y1.1,vI d.Fuse,vB d.Off],.var 26 [vN,vI 0,vI 0,vB false],.row 135 3 (List.map ar y1.2)]⟩)) wA ?_ <|bO fun y1 _ h w=>wk w eF
 rintro y1 ⟨a1,a2,a3⟩ v1 h r
 replace h:disk_Crash_l2 d keeps a1 a2 a3=some v1:=h
 unfold disk_Crash_l2 at h
 dsimp only
 refine go ?_
 refine cC h rfl (fun c1 h=>go ?_) fun c1 h=>xE
 obtain ⟨x1,q1,h⟩:=bind_some h
 refine ⟨⟨rfl,(bX q1).1,by have:=bX q1;simp only [List.length_map,List.length_set,List.length_cons,List.length_nil] at*;omega⟩,?_⟩
 refine ⟨rfl,_,al ar (af q1).2,gN 2 ?_⟩
 refine k1 h (fun y2=>⟨60,0,ab [(1,sL (ax .i64) keeps),(2,.ptr 0 0),(4,.ptr 1 0),(5,vI a1),(6,.ptr 3 0),(7,vI y2),(13,.row 2 ((List.map ar a3).length)),(14,vI (d.Files.length:Int)),(15,vI a1)],[.var 26 [.row 2 ((List.map ar a3).length),vI a2,vI d.Fuse,vB d.Off],.var 26 [vN,vI 0,vI 0,vB false],.row 135 3 (List.map ar a3),.var 135 (ar x1)]⟩) (fun y2 h=>go ?_) fun y2 h=>go ?_
 refine ⟨_,(aA _ _).symm,go ?_⟩
 refine cC h rfl (fun c2 h=>go ?_) fun c2 h=>cE
 refine cp.one 10 (.k [0,1,2,3,4,5,6,7,8,9] .fin) [] (by kernel_rfl) (go ?_)
 refine bD h fun x2 q2 h=>⟨(af q2).1,_,al (ax .i64) (af q2).2,rfl,(x1.Wait.length:Int),rfl,cE⟩
 refine ⟨(x1.Wait.length:Int),rfl,go ?_⟩
 refine cp.one 14 (.k [0,1,2,3,4,5,6,7,8,9,10,11,12,13] .fin) [] (by kernel_rfl) (go ?_)
 refine nD h fun p2 h=>⟨p2,bs (cut x1.Wait 0 y2),bs_cut _ _ _,go ?_⟩
 refine nD h fun p3 h=>⟨p3,_,dD _ _,go ?_⟩
 refine ⟨⟨rfl,(bX q1).1,by have:=bX q1;simp only [List.length_map,List.length_set,List.length_cons,List.length_nil] at*;omega⟩,?_⟩
 refine ⟨rfl,_,al ar (af q1).2,Nat.le_of_ble_eq_true rfl,List.map ar (List.set a3 (a1).toNat (⟨x1.Name,(x1.Safe++(cut x1.Wait 0 y2)),[]⟩:File)),map_set ar _ _ _ rfl,go ?_⟩
 cases h
 exact ⟨_,rfl,(wF (.cons (.var (.cons (.same (show (.row 2 ((List.map ar a3).length):AV)=(.row 2 ((List.map ar (List.set a3 (a1).toNat (⟨x1.Name,(x1.Safe++(cut x1.Wait 0 y2)),[]⟩:File))).length):AV) from congrArg (AV.row 2) (by simp))) (.cons (.same rfl) (.cons (.same rfl) (.cons (.same rfl) (.nil)))))) .rest) (.s (.s (.s (.q (.all rfl))))))⟩
def engine_Crash (e:Engine) (keeps:(List Int)):Option (Engine×Int):=
 (disk_Crash e.X.D keeps).bind fun y1=>
 (engine_New y1).bind fun y2=>
 if (!(decide (y2.2=0))) then some (y2.1,y2.2) else
 some ((⟨y2.1.X,y2.1.L,y2.1.T,e.Next,e.Now⟩:Engine),0)
theorem engine_Crash_walk {e keeps r} (h:engine_Crash e keeps=some r):pP 18 [.agg (ag e),sL (ax .i64) keeps] (.tup [.agg (ag r.1),vI r.2]):=by
 unfold engine_Crash at h
 refine pW0 Tryz.func18 rfl fun g=>go ?_
 refine cP h disk_Crash_walk fun y1 h=>go ?_
 refine cP h engine_New_walk fun y2 h=>go ?_
 refine cC h rfl (fun c1 h=>eF) fun c1 h=>go ?_
 exact cp.one 6 (.k [0,1,2,3,4] (.o 5 .fin)) [2,3,4,5,6,7,8] (by kernel_rfl) ⟨eF,⟨⟩⟩
def disk_Arm (d:Disk) (fuse:Int):Option (Disk):=
 some (⟨d.Files,d.Room,(if fuse<(-1) then (-1) else fuse),d.Off⟩:Disk)
theorem disk_Arm_walk {d fuse r} (h:disk_Arm d fuse=some r):pP 114 [.agg (aG d),vI fuse] (.agg (aG r)):=by
 unfold disk_Arm at h
 exact pW0 Tryz.func114 rfl fun g=>eF
def kv_Arm (x:Store) (fuse:Int):Option (Store):=
 (disk_Arm x.D fuse).bind fun y1=>
 some (⟨y1,x.From,x.Seg,x.Run,x.S,x.Down⟩:Store)
theorem kv_Arm_walk {x fuse r} (h:kv_Arm x fuse=some r):pP 69 [.agg (encStore x),vI fuse] (.agg (encStore r)):=by
 unfold kv_Arm at h
 refine pW0 Tryz.func69 rfl fun g=>go ?_
 exact cP h disk_Arm_walk fun y1 h=>eF
def engine_Arm (e:Engine) (fuse:Int):Option (Engine):=
 (kv_Arm e.X fuse).bind fun y1=>
 some (⟨y1,e.L,e.T,e.Next,e.Now⟩:Engine)
theorem engine_Arm_walk {e fuse r} (h:engine_Arm e fuse=some r):pP 45 [.agg (ag e),vI fuse] (.agg (ag r)):=by
 unfold engine_Arm at h
 refine pW0 Tryz.func45 rfl fun g=>go ?_
 exact cP h kv_Arm_walk fun y1 h=>eF
end
end Go.Ab
namespace Go.Ab
open Go.Proofs
set_option linter.unusedVariables false
set_option linter.unusedSimpArgs false
set_option maxRecDepth 100000
set_option maxHeartbeats 4000000
noncomputable section
def law13_does (e:Engine) (a:Act):Option (Engine×(List Done)×Int×Int):=
 (if (decide (a.Kind=1)) then
 (engine_Begin e a.S).bind fun y1=>
 some (y1.2.2,y1.2.1,[],y1.1)
 else
 if (decide (a.Kind=2)) then
 (engine_Ask e a.Txn a.Op).bind fun y2=>
 some (0,0,y2.2,y2.1)
 else
 if (decide (a.Kind=3)) then
 (engine_Leave e a.Txn).bind fun y3=>
 some (0,0,y3.2,y3.1)
 else
 if (decide (a.Kind=4)) then
 (law13_later e.Now a.N).bind fun y4=>
 (engine_Tick e y4).bind fun y5=>
 some (0,0,y5.2,y5.1)
 else
 if (decide (a.Kind=5)) then
 (engine_Check e).bind fun y6=>
 some (y6.2,0,[],y6.1)
 else
 if (decide (a.Kind=6)) then
 (law13_keeps e a.N).bind fun y7=>
 (engine_Crash e y7).bind fun y8=>
 some (y8.2,0,[],y8.1)
 else
 if (decide (a.Kind=7)) then
 (engine_Arm e a.N).bind fun y9=>
 some (0,0,[],y9)
 else
 some (0,0,[],e)).bind fun (y10:Int×Int×(List Done)×Engine)=>
 some (y10.2.2.2,y10.2.2.1,y10.2.1,y10.1)
theorem law13_does_walk {e a r} (h:law13_does e a=some r):pP 24 [.agg (ag e),.agg (encAct a)] (.tup [.agg (ag r.1),sL ak r.2.1,vI r.2.2.1,vI r.2.2.2]):=by
 unfold law13_does at h
 refine pW0 Tryz.func24 rfl fun g=>gN 8 ?_
 refine k1 h (fun y1=>⟨83,0,ab [(2,.ptr 0 0),(4,.ptr 2 0),(8,vI y1.1),(9,vI y1.2.1),(10,sL ak y1.2.2.1)],[.var 39 (ag y1.2.2.2),.gone,.var 39 [vN,vI 0,vI 0,vB false,vI 0,vI 0,vI 0,vN,vN,vB false,vN,vN,vN,vI 0,vU 0]]⟩) (fun y1 h=>go ?_) fun y1 h=>eF
 refine cC h rfl (fun c1 h=>go ?_) fun c1 h=>go ?_
 refine cP h engine_Begin_walk fun y2 h=>go ?_
 cases h
 exact ⟨rfl,(wF (.s (.g .rest)) (.s (.s (.s (.s (.n (.all rfl)))))))⟩
 refine cC h rfl (fun c2 h=>go ?_) fun c2 h=>go ?_
 refine cP h engine_Ask_walk fun y3 h=>go ?_
 cases h
 exact ⟨rfl,(wF (.s (.g .rest)) (.all rfl))⟩
 refine cC h rfl (fun c3 h=>go ?_) fun c3 h=>go ?_
 refine cP h engine_Leave_walk fun y4 h=>go ?_
 cases h
 exact ⟨rfl,(wF (.s (.g .rest)) (.all rfl))⟩
 refine cC h rfl (fun c4 h=>go ?_) fun c4 h=>go ?_
 obtain ⟨y5,q1,h⟩:=bind_some h
 obtain ⟨y6,q2,h⟩:=bind_some h
 refine cp.many 11 (.k [1,3,4] (.alt 0 (.o 2 (.o 5 (.o 6 (.k [7,8,9] (.o 10 .fin))))) (.o 2 (.alt 0 (.o 5 (.o 6 (.k [7,8,9] (.o 10 .fin)))) (.o 5 (.o 0 (.o 6 (.k [7,8,9] (.o 10 .fin))))))))) [0,3,4,5,6,7,8] (⟨83,0,ab [(2,.ptr 0 0),(4,.ptr 2 0),(8,vI 0),(9,vI 0),(54,sL ak y6.2)],[.var 39 (ag y6.1),.var 88 (encAct a),.var 39 [vN,vI 0,vI 0,vB false,vI 0,vI 0,vI 0,vN,vN,vB false,vN,vN,vN,vI 0,vU 0]]⟩) (by kernel_rfl) ⟨⟨⟨go ?_,⟨⟩⟩,⟨⟩⟩,⟨⟨⟨go ?_,⟨⟩⟩,⟨go ?_,⟨⟩⟩⟩,⟨⟩⟩⟩ (go ?_)
 refine mP (law13_later_walk q1) ⟨go ?_,⟨⟩⟩
 exact mP (engine_Tick_walk q2) ⟨cA,⟨⟩⟩
 refine mP (law13_later_walk q1) ⟨go ?_,⟨⟩⟩
 exact mP (engine_Tick_walk q2) ⟨cA,⟨⟩⟩
 refine mP (law13_later_walk q1) ⟨⟨go ?_,⟨⟩⟩,⟨⟩⟩
 exact mP (engine_Tick_walk q2) ⟨cA,⟨⟩⟩
 cases h
 exact ⟨rfl,(wF (.s (.g .rest)) (.all rfl))⟩
 refine cC h rfl (fun c5 h=>go ?_) fun c5 h=>go ?_
 refine cP h engine_Check_walk fun y7 h=>go ?_
 cases h
 exact ⟨rfl,(wF (.s (.g .rest)) (.s (.s (.s (.s (.n (.all rfl)))))))⟩
 refine cC h rfl (fun c6 h=>go ?_) fun c6 h=>go ?_
 obtain ⟨y8,q3,h⟩:=bind_some h
 obtain ⟨y9,q4,h⟩:=bind_some h
 refine cp.many 10 (.k [2,3] (.alt 0 (.o 1 (.o 4 (.o 5 (.k [6,7,8] (.o 9 .fin))))) (.o 1 (.alt 0 (.o 4 (.o 5 (.k [6,7,8] (.o 9 .fin)))) (.o 4 (.o 0 (.o 5 (.k [6,7,8] (.o 9 .fin))))))))) [0,3,4,5,6,7,8] (⟨83,0,ab [(2,.ptr 0 0),(4,.ptr 2 0),(9,vI 0),(10,vN),(72,vI y9.2)],[.var 39 (ag y9.1),.var 88 (encAct a),.var 39 [vN,vI 0,vI 0,vB false,vI 0,vI 0,vI 0,vN,vN,vB false,vN,vN,vN,vI 0,vU 0]]⟩) (by kernel_rfl) ⟨⟨⟨go ?_,⟨⟩⟩,⟨⟩⟩,⟨⟨⟨go ?_,⟨⟩⟩,⟨go ?_,⟨⟩⟩⟩,⟨⟩⟩⟩ (go ?_)
 refine mP (law13_keeps_walk q3) ⟨go ?_,⟨⟩⟩
 exact mP (engine_Crash_walk q4) ⟨cA,⟨⟩⟩
 refine mP (law13_keeps_walk q3) ⟨go ?_,⟨⟩⟩
 exact mP (engine_Crash_walk q4) ⟨cA,⟨⟩⟩
 refine mP (law13_keeps_walk q3) ⟨⟨go ?_,⟨⟩⟩,⟨⟩⟩
 exact mP (engine_Crash_walk q4) ⟨cA,⟨⟩⟩
 cases h
 exact ⟨rfl,(wF (.s (.g .rest)) (.s (.s (.s (.s (.n (.all rfl)))))))⟩
 refine cC h rfl (fun c7 h=>go ?_) fun c7 h=>go ?_
 refine cP h engine_Arm_walk fun y10 h=>go ?_
 cases h
 exact ⟨rfl,(wF (.s (.g .rest)) (.s (.s (.s (.s (.n (.all rfl)))))))⟩
 cases h
 exact ⟨rfl,(wF (.s (.g .rest)) (.s (.s (.s (.s (.n (.all rfl)))))))⟩
def law13_plays_l2 (l:(List Act)) (y1:Engine×Int) (a1:Int) (a2:Engine):Option ((Int×Engine)⊕((Engine)⊕(Engine))):=
 if ((decide (a1<(l.length:Int)))&&((decide (a1<300))&&(decide (y1.2=0)))) then
 (ix l a1).bind fun x1=>
 (law13_does a2 x1).bind fun y2=>
 if ((!(decide (y2.2.2.2=0)))&&(decide (x1.Kind=6))) then some (.inr (.inl a2)) else
 some (.inl ((IntKind.i64.wrap (a1+1)),y2.1))
 else
 some (.inr (.inr a2))
def law13_plays (room:Int) (l:(List Act)):Option (Engine×Bool):=
 (ref03_New room).bind fun y1=>
 if (!(decide (y1.2=0))) then some ((⟨(⟨(⟨[],0,0,false⟩:Disk),0,0,0,(⟨[],[]⟩:State),false⟩:Store),(⟨[],[]⟩:Locks),[],0,0⟩:Engine),false) else
 (engine_New y1.1).bind fun y2=>
 (loop (fun (s1:Int×Engine)=>law13_plays_l2 l y2 s1.1 s1.2) ((0:Int),y2.1)).bind fun (y3:(Engine)⊕(Engine))=>
 match y3 with
 |(.inl v1)=>
  some (v1,false)
 |(.inr v2)=>
 some (v2,(decide (y2.2=0)))
theorem law13_plays_walk {room l r} (h:law13_plays room l=some r):pP 11 [vI room,sL encAct l] (.tup [.agg (ag r.1),vB r.2]):=by
 unfold law13_plays at h
 refine pW0 Tryz.func11 rfl fun g=>go ?_
 refine cP h ref03_New_walk fun y1 h=>go ?_
 refine cC h rfl (fun c1 h=>eF) fun c1 h=>go ?_
 refine cP h engine_New_walk fun y2 h=>go ?_
 refine lQ h (fun s1=>⟨68,0,ab [(1,sL encAct l),(4,.ptr 0 0),(8,.ptr 2 0),(9,vI y2.2),(10,vI s1.1)],[.var 39 [vN,vI 0,vI 0,vB false,vI 0,vI 0,vI 0,vN,vN,vB false,vN,vN,vN,vI 0,vU 0],.gone,.var 39 (ag s1.2)]⟩) (Sum.elim (aO .ret (fun v1=>⟨68,0,ab [(4,.ptr 0 0),(5,vB false)],[.var 39 (ag v1)]⟩)) (aO (.exit 0) (fun v2=>⟨68,0,ab [(4,.ptr 0 0),(8,.ptr 2 0),(9,vI y2.2)],[.var 39 [vN,vI 0,vI 0,vB false,vI 0,vI 0,vI 0,vN,vN,vB false,vN,vN,vN,vI 0,vU 0],.gone,.var 39 (ag v2)]⟩))) (wF (.s (.g .rest)) (.all rfl)) ?_ <|bE (bO fun v1 _ h w=>eFw)<|bO fun v2 _ h w=>wk w eF
 rintro y3 ⟨a1,a2⟩ v3 h r
 replace h:law13_plays_l2 l y2 a1 a2=some v3:=h
 unfold law13_plays_l2 at h
 dsimp only
 refine gN 1 ?_
 refine k0 ⟨68,0,ab [(1,sL encAct l),(4,.ptr 0 0),(8,.ptr 2 0),(9,vI y2.2),(10,vI a1),(39,vB ((decide (a1<(l.length:Int)))&&((decide (a1<300))&&(decide (y2.2=0)))))],[.var 39 [vN,vI 0,vI 0,vB false,vI 0,vI 0,vI 0,vN,vN,vB false,vN,vN,vN,vI 0,vU 0],.gone,.var 39 (ag a2)]⟩ (go ?_) ((cC h rfl (fun c2 h=>go ?_) fun c2 h=>xE))
 refine ⟨_,(aA _ _).symm,go ?_⟩
 refine cK (decide (a1<(l.length:Int))) (fun i1=>go ?_) fun i1=>cI
 exact cK (decide (a1<300)) (fun i2=>cI) fun i2=>cI
 obtain ⟨x1,q1,h⟩:=bind_some h
 obtain ⟨y4,q2,h⟩:=bind_some h
 refine cp.many 15 (.k [0,1,2,3,4] (.alt 5 (.k [6,7,8,9,10] (.o 11 (.o 12 (.k [13,14] .fin)))) (.o 11 (.o 5 (.k [6,7,8,9,10] (.o 12 (.k [13,14] .fin))))))) [3,4,5,6,7,8] (⟨68,0,ab [(1,sL encAct l),(4,.ptr 0 0),(8,.ptr 2 0),(9,vI y2.2),(10,vI a1),(11,.ptr 3 0),(52,vI y4.2.2.2)],[.var 39 [vN,vI 0,vI 0,vB false,vI 0,vI 0,vI 0,vN,vN,vB false,vN,vN,vN,vI 0,vU 0],.gone,.var 39 (ag a2),.var 39 (ag y4.1)]⟩) (by kernel_rfl) ⟨(af q1).1,_,al encAct (af q1).2,rfl,go ?_,⟨⟨go ?_,⟨⟩⟩,⟨⟩⟩⟩ (gN 1 ?_)
 exact mP (law13_does_walk q2) ⟨⟨cA,⟨⟩⟩,⟨⟩⟩
 exact mP (law13_does_walk q2) ⟨cA,⟨⟩⟩
 refine k0 ⟨68,0,ab [(1,sL encAct l),(4,.ptr 0 0),(8,.ptr 2 0),(9,vI y2.2),(10,vI a1),(11,.ptr 3 0),(62,vB ((!(decide (y4.2.2.2=0)))&&(decide (x1.Kind=6))))],[.var 39 [vN,vI 0,vI 0,vB false,vI 0,vI 0,vI 0,vN,vN,vB false,vN,vN,vN,vI 0,vU 0],.gone,.var 39 (ag a2),.var 39 (ag y4.1)]⟩ (go ?_) ?_
 exact cK (!(decide (y4.2.2.2=0))) (fun i1=>⟨(af q1).1,_,al encAct (af q1).2,rfl,cI⟩) fun i1=>cI
 exact cC h rfl (fun c3 h=>xE) fun c3 h=>cN
def ref01_Less_l2 (a b:Str) (a1:Int):Option ((Int)⊕((Bool)⊕(Unit))):=
 if ((decide (a1<(a.length:Int)))&&(decide (a1<(b.length:Int)))) then
 (ix a a1).bind fun x1=>
 (ix b a1).bind fun x2=>
 if (!(decide ((x1.toNat:Int)=(x2.toNat:Int)))) then some (.inr (.inl (decide ((x1.toNat:Int)<(x2.toNat:Int))))) else
 some (.inl (IntKind.i64.wrap (a1+1)))
 else
 some (.inr (.inr ()))
def ref01_Less (a b:Str):Option (Bool):=
 (loop (fun (s1:Int)=>ref01_Less_l2 a b s1) (0:Int)).bind fun (y1:(Bool)⊕(Unit))=>
 match y1 with
 |(.inl v1)=>
  some v1
 |(.inr v2)=>
 some (decide ((a.length:Int)<(b.length:Int)))
theorem ref01_Less_walk {a b r} (h:ref01_Less a b=some r):pP 48 [vS a,vS b] (vB r):=by
 unfold ref01_Less at h
 refine pW0 Tryz.func48 rfl fun g=>go ?_
 refine lQ h (fun s1=>⟨37,0,ab [(0,vS a),(1,vS b),(5,vI s1)],[]⟩) (Sum.elim (aO .ret (fun v1=>⟨37,0,ab [(4,vB v1)],[]⟩)) (aO (.exit 0) (fun _=>⟨37,0,ab [(0,vS a),(1,vS b)],[]⟩))) wA ?_ <|bE (bO fun v1 _ h w=>eFw)<|bO fun v2 _ h w=>wk w (go ?_)
 rintro y1 a1 v3 h r
 replace h:ref01_Less_l2 a b a1=some v3:=h
 unfold ref01_Less_l2 at h
 refine gN 1 ?_
 refine k0 ⟨37,0,ab [(0,vS a),(1,vS b),(5,vI a1),(15,vB ((decide (a1<(a.length:Int)))&&(decide (a1<(b.length:Int)))))],[]⟩ (go ?_) ((cC h rfl (fun c1 h=>go ?_) fun c1 h=>xE))
 refine ⟨(a.length:Int),rfl,go ?_⟩
 exact cK (decide (a1<(a.length:Int))) (fun i1=>⟨(b.length:Int),rfl,cI⟩) fun i1=>cI
 refine cp.one 7 (.k [0,1,2,3,4,5,6] .fin) [] (by kernel_rfl) (go ?_)
 refine bD h fun x1 q1 h=>⟨bs_bound q1,_,bs_at q1,go ?_⟩
 refine bD h fun x2 q2 h=>⟨bs_bound q2,_,bs_at q2,go ?_⟩
 refine cC h rfl (fun c2 h=>go ?_) fun c2 h=>cN
 exact cp.one 8 (.k [0,1,2,3,4,5,6,7] .fin) [] (by kernel_rfl) ⟨bs_bound q1,_,bs_at q1,bs_bound q2,_,bs_at q2,xE⟩
 refine ⟨(a.length:Int),rfl,(b.length:Int),rfl,eF⟩
def ref09_In (w_:Want) (key:Str):Option (Bool):=
 (ref01_Less key w_.Lo).bind fun y1=>
 if (!y1) then
 if (decide (w_.Hi=[])) then some true else
 (ref01_Less key w_.Hi).bind fun y2=>
 some y2
 else
 some false
theorem ref09_In_walk {w_ key r} (h:ref09_In w_ key=some r):pP 49 [.agg (aR w_),vS key] (vB r):=by
 unfold ref09_In at h
 refine pW0 Tryz.func49 rfl fun g=>go ?_
 refine cP h ref01_Less_walk fun y1 h=>go ?_
 refine cM h (fun c1 h=>⟨_,bs_eq _ _,go ?_⟩) fun c1 h=>eF
 refine cM h (fun c2 h=>eF) fun c2 h=>go ?_
 exact cP h ref01_Less_walk fun y2 h=>eF
def ref09_Overlap (a b:Want):Option (Bool):=
 (ref01_Less a.Lo b.Lo).bind fun y1=>
 (ref09_In a (if y1 then b.Lo else a.Lo)).bind fun y2=>
 if y2 then
 (ref09_In b (if y1 then b.Lo else a.Lo)).bind fun y3=>
 some y3
 else
 some false
theorem ref09_Overlap_walk {a b r} (h:ref09_Overlap a b=some r):pP 26 [.agg (aR a),.agg (aR b)] (vB r):=by
 unfold ref09_Overlap at h
 refine pW0 Tryz.func26 rfl fun g=>go ?_
 refine cP h ref01_Less_walk fun y1 h=>gN 0 ?_
 refine k0 ⟨27,0,ab [(2,.ptr 0 0),(3,.ptr 1 0),(5,vS (if y1 then b.Lo else a.Lo))],[.var 50 (aR a),.var 50 (aR b)]⟩ (go ?_) (go ?_)
 exact cD (y1) rfl (fun i1=>cI) fun i1=>cI
 refine cP h ref09_In_walk fun y2 h=>go ?_
 refine cM h (fun c1 h=>go ?_) fun c1 h=>eF
 exact cP h ref09_In_walk fun y3 h=>eF
def ref09_Clash (a b:Want):Option (Bool):=
 (ref09_Overlap a b).bind fun y1=>
 if y1 then
 if (decide (a.Mode=2)) then some true else
 some (decide (b.Mode=2))
 else
 some false
theorem ref09_Clash_walk {a b r} (h:ref09_Clash a b=some r):pP 13 [.agg (aR a),.agg (aR b)] (vB r):=by
 unfold ref09_Clash at h
 refine pW0 Tryz.func13 rfl fun g=>go ?_
 refine cP h ref09_Overlap_walk fun y1 h=>go ?_
 refine cM h (fun c1 h=>go ?_) fun c1 h=>eF
 exact cM h (fun c2 h=>eF) fun c2 h=>eF
def ref10_Waits_l2 (l:Locks) (txn a1:Int):Option ((Int)⊕((Unit)⊕(Unit))):=
 if (decide (a1<(l.Queue.length:Int))) then
 (ix l.Queue a1).bind fun x1=>
 if (decide (x1.Txn=txn)) then some (.inr (.inl ())) else
 some (.inl (IntKind.i64.wrap (a1+1)))
 else
 some (.inr (.inr ()))
def ref10_Waits (l:Locks) (txn:Int):Option (Bool):=
 (loop (fun (s1:Int)=>ref10_Waits_l2 l txn s1) (0:Int)).bind fun (y1:(Unit)⊕(Unit))=>
 match y1 with
 |(.inl v1)=>
  some true
 |(.inr v2)=>
 some false
theorem ref10_Waits_walk {l txn r} (h:ref10_Waits l txn=some r):pP 14 [.agg (aD l),vI txn] (vB r):=by
 unfold ref10_Waits at h
 refine pW0 Tryz.func14 rfl fun g=>go ?_
 refine lQ h (fun s1=>⟨21,0,ab [(1,vI txn),(2,.ptr 0 0),(5,vI s1)],[.var 35 (aD l)]⟩) (Sum.elim (aO .ret (fun _=>⟨21,0,ab [(4,vB true)],[]⟩)) (aO (.exit 0) (fun _=>⟨21,0,ab [],[]⟩))) wA ?_ <|bE (bO fun v1 _ h w=>eFw)<|bO fun v2 _ h w=>wk w eF
 rintro y1 a1 v3 h r
 replace h:ref10_Waits_l2 l txn a1=some v3:=h
 unfold ref10_Waits_l2 at h
 refine go ?_
 refine ⟨_,(aA _ _).symm,go ?_⟩
 refine cC h rfl (fun c1 h=>go ?_) fun c1 h=>xE
 refine bD h fun x1 q1 h=>⟨(af q1).1,_,al an (af q1).2,rfl,go ?_⟩
 exact cC h rfl (fun c2 h=>xE) fun c2 h=>cN
def dB (y1:Engine×Bool) (a1:Int) (x1:Hold) (a2:Int):Option ((Int)⊕((Unit)⊕(Unit))):=
 if (decide (a2<a1)) then
 (ix y1.1.L.Held a2).bind fun x2=>
 (ref09_Clash x1.W x2.W).bind fun y2=>
 if (y2&&(!(decide (x1.Txn=x2.Txn)))) then some (.inr (.inl ())) else
 some (.inl (IntKind.i64.wrap (a2+1)))
 else
 some (.inr (.inr ()))
def dC (y1:Engine×Bool) (a1:Int):Option ((Int)⊕((Unit)⊕(Unit))):=
 if (decide (a1<(y1.1.L.Held.length:Int))) then
 (ix y1.1.L.Held a1).bind fun x1=>
 (dw y1.1 x1.Txn).bind fun y2=>
 if (!y2.2) then some (.inr (.inl ())) else
 (loop (fun (s1:Int)=>dB y1 a1 x1 s1) (0:Int)).bind fun (y4:(Unit)⊕(Unit))=>
 match y4 with
 |(.inl v1)=>
  some (.inr (.inl ()))
 |(.inr v2)=>
 some (.inl (IntKind.i64.wrap (a1+1)))
 else
 some (.inr (.inr ()))
def dA (y1:Engine×Bool) (a1:Int):Option ((Int)⊕((Unit)⊕(Unit))):=
 if (decide (a1<(y1.1.T.length:Int))) then
 (ix y1.1.T a1).bind fun x1=>
 (ref10_Waits y1.1.L x1.Id).bind fun y2=>
 if (!(x1.Waits == y2)) then some (.inr (.inl ())) else
 some (.inl (IntKind.i64.wrap (a1+1)))
 else
 some (.inr (.inr ()))
def law13_EngineApart (room:Int) (l:(List Act)):Option (Bool):=
 law13_shown.bind fun y1=>
 (law13_plays room l).bind fun y2=>
 if ((!y1)||(!y2.2)) then some y1 else
 (loop (fun (s1:Int)=>dC y2 s1) (0:Int)).bind fun (y4:(Unit)⊕(Unit))=>
 match y4 with
 |(.inl v1)=>
  some false
 |(.inr v2)=>
 (loop (fun (s2:Int)=>dA y2 s2) (0:Int)).bind fun (y5:(Unit)⊕(Unit))=>
 match y5 with
 |(.inl v3)=>
  some false
 |(.inr v4)=>
 if (decide ((y2.1.T.length:Int)≤6)) then some (decide ((y2.1.L.Queue.length:Int)≤6)) else
 some false
theorem law13_EngineApart_walk {room l r} (h:law13_EngineApart room l=some r):pP 3 [vI room,sL encAct l] (vB r):=by
 unfold law13_EngineApart at h
 refine pW0 Tryz.func3 rfl fun g=>go ?_
 refine cP h law13_shown_walk fun y1 h=>go ?_
 refine cP h law13_plays_walk fun y2 h=>gN 1 ?_
 refine k0 ⟨122,0,ab [(5,vB y1),(6,.ptr 0 0),(26,vB ((!y1)||(!y2.2)))],[.var 39 (ag y2.1)]⟩ (go ?_) ((cC h rfl (fun c1 h=>eF) fun c1 h=>go ?_))
 exact cK (!y1) (fun i1=>cI) fun i1=>cI
 refine lQ h (fun s1=>⟨122,0,ab [(6,.ptr 0 0),(8,vI s1)],[.var 39 (ag y2.1)]⟩) (Sum.elim (aO .ret (fun _=>⟨122,0,ab [(4,vB false)],[]⟩)) (aO (.exit 0) (fun _=>⟨122,0,ab [(6,.ptr 0 0)],[.var 39 (ag y2.1)]⟩))) wA ?_ <|bE (bO fun v1 _ h w=>eFw)<|bO fun v2 _ h w=>wk w (go ?_)
 rintro y4 a1 v3 h r
 replace h:dC y2 a1=some v3:=h
 unfold dC at h
 refine go ?_
 refine ⟨_,(aA _ _).symm,go ?_⟩
 refine cC h rfl (fun c2 h=>go ?_) fun c2 h=>xE
 obtain ⟨x1,q1,h⟩:=bind_some h
 obtain ⟨y5,q2,h⟩:=bind_some h
 refine cp.many 14 (.k [0,1,2,3,4,5,6,7] (.alt 8 (.k [9,10,11] (.o 12 (.o 13 .fin))) (.o 12 (.o 8 (.k [9,10,11] (.o 13 .fin)))))) [1,2,3,4,5,6] (⟨122,0,ab [(6,.ptr 0 0),(8,vI a1),(47,vB y5.2)],[.var 39 (ag y2.1)]⟩) (by kernel_rfl) ⟨(af q1).1,_,al ay (af q1).2,rfl,go ?_,⟨⟨go ?_,⟨⟩⟩,⟨⟩⟩⟩ (go ?_)
 exact mP (cr q2) ⟨⟨cA,⟨⟩⟩,⟨⟩⟩
 exact mP (cr q2) ⟨cA,⟨⟩⟩
 refine cC h rfl (fun c3 h=>xE) fun c3 h=>go ?_
 refine lQ h (fun s2=>⟨122,0,ab [(6,.ptr 0 0),(8,vI a1),(11,vI s2)],[.var 39 (ag y2.1)]⟩) (Sum.elim (aO .ret (fun _=>⟨122,0,ab [(4,vB false)],[]⟩)) (aO (.exit 2) (fun _=>⟨122,0,ab [(6,.ptr 0 0),(8,vI a1)],[.var 39 (ag y2.1)]⟩))) wA ?_ <|bE (bO fun v4 _ h w=>xEw)<|bO fun v5 _ h w=>wk w cN
 rintro y6 a2 v6 h r
 replace h:dB y2 a1 x1 a2=some v6:=h
 unfold dB at h
 refine go ?_
 refine cC h rfl (fun c4 h=>go ?_) fun c4 h=>xE
 refine cp.one 16 (.k [0,1,2,3,4,5,6,7,8,9,10,11,12,13] (.o 14 (.k [15] .fin))) [] (by kernel_rfl) ⟨(af q1).1,_,al ay (af q1).2,rfl,go ?_⟩
 refine bD h fun x2 q3 h=>⟨(af q3).1,_,al ay (af q3).2,rfl,go ?_,⟨⟩⟩
 refine cP h ref09_Clash_walk fun y7 h=>gN 0 ?_
 refine k0 ⟨122,0,ab [(6,.ptr 0 0),(8,vI a1),(11,vI a2),(87,vB (y7&&(!(decide (x1.Txn=x2.Txn)))))],[.var 39 (ag y2.1)]⟩ (go ?_) ?_
 refine cp.one 18 (.k [0,1,2,3,4,5,6,7,8,9,10,11,12,13,14,15,16,17] .fin) [] (by kernel_rfl) (go ?_)
 exact cK (y7) (fun i1=>⟨(af q1).1,_,al ay (af q1).2,rfl,(af q3).1,_,al ay (af q3).2,rfl,cI⟩) fun i1=>cI
 exact cC h rfl (fun c5 h=>xE) fun c5 h=>cN
 refine lQ h (fun s3=>⟨122,0,ab [(6,.ptr 0 0),(13,vI s3)],[.var 39 (ag y2.1)]⟩) (Sum.elim (aO .ret (fun _=>⟨122,0,ab [(4,vB false)],[]⟩)) (aO (.exit 4) (fun _=>⟨122,0,ab [(6,.ptr 0 0)],[.var 39 (ag y2.1)]⟩))) wA ?_ <|bE (bO fun v7 _ h w=>eFw)<|bO fun v8 _ h w=>wk w (go ?_)
 rintro y8 a3 v9 h r
 replace h:dA y2 a3=some v9:=h
 unfold dA at h
 refine go ?_
 refine ⟨_,(aA _ _).symm,go ?_⟩
 refine cC h rfl (fun c6 h=>go ?_) fun c6 h=>xE
 refine cp.one 16 (.k [0,1,2,3,4,5,6,7,8,9,10,11,12,13] (.o 14 (.k [15] .fin))) [] (by kernel_rfl) (go ?_)
 refine bD h fun x3 q4 h=>⟨(af q4).1,_,al aB (af q4).2,rfl,(af q4).1,_,al aB (af q4).2,rfl,go ?_,⟨⟩⟩
 refine cP h ref10_Waits_walk fun y9 h=>go ?_
 exact cC h rfl (fun c7 h=>xE) fun c7 h=>cN
 refine ⟨_,(aA _ _).symm,go ?_⟩
 exact cM h (fun c8 h=>⟨_,(aA _ _).symm,eF⟩) fun c8 h=>eF
def ref05_Find_l2 (l:(List Pair)) (key:Str) (a1:Int):Option ((Int)⊕((Str)⊕(Unit))):=
 if (decide (a1<(l.length:Int))) then
 (ix l a1).bind fun x1=>
 if (decide (x1.Key=key)) then some (.inr (.inl x1.Val)) else
 some (.inl (IntKind.i64.wrap (a1+1)))
 else
 some (.inr (.inr ()))
def ref05_Find (l:(List Pair)) (key:Str):Option (Str×Bool):=
 (loop (fun (s1:Int)=>ref05_Find_l2 l key s1) (0:Int)).bind fun (y1:(Str)⊕(Unit))=>
 match y1 with
 |(.inl v1)=>
  some (v1,true)
 |(.inr v2)=>
 some ([],false)
theorem ref05_Find_walk {l key r} (h:ref05_Find l key=some r):pP 16 [sL ac l,vS key] (.tup [vS r.1,vB r.2]):=by
 unfold ref05_Find at h
 refine pW0 Tryz.func16 rfl fun g=>go ?_
 refine lQ h (fun s1=>⟨25,0,ab [(0,sL ac l),(1,vS key),(6,vI s1)],[]⟩) (Sum.elim (aO .ret (fun v1=>⟨25,0,ab [(4,vS v1),(5,vB true)],[]⟩)) (aO (.exit 0) (fun _=>⟨25,0,ab [],[]⟩))) wA ?_ <|bE (bO fun v1 _ h w=>eFw)<|bO fun v2 _ h w=>wk w eF
 rintro y1 a1 v3 h r
 replace h:ref05_Find_l2 l key a1=some v3:=h
 unfold ref05_Find_l2 at h
 refine go ?_
 refine ⟨_,(aA _ _).symm,go ?_⟩
 refine cC h rfl (fun c1 h=>go ?_) fun c1 h=>xE
 refine bD h fun x1 q1 h=>⟨(af q1).1,_,al ac (af q1).2,rfl,_,bs_eq _ _,go ?_⟩
 refine cC h rfl (fun c2 h=>go ?_) fun c2 h=>cN
 refine ⟨(af q1).1,_,al ac (af q1).2,rfl,xE⟩
def law13_EngineReads_l2 (with_:EngineReadsIn) (y1:Txn×Bool) (a1:Str) (a2:Bool) (a3:Int):Option ((Str×Bool×Int)⊕(Str×Bool)):=
 if (decide (a3<(y1.1.Writes.length:Int))) then
 ((ix y1.1.Writes a3).bind fun x1=>
 if (decide (x1.Key=with_.Key)) then
 if x1.Del then some ([],(!x1.Del)) else
 some (x1.Val,(!x1.Del))
 else
 some (a1,a2)).bind fun (y2:Str×Bool)=>
 some (.inl (y2.1,y2.2,(IntKind.i64.wrap (a3+1))))
 else
 some (.inr (a1,a2))
def law13_EngineReads (with_:EngineReadsIn):Option (Bool):=
 law13_shown.bind fun y1=>
 (law13_plays with_.Room with_.L).bind fun y2=>
 if ((!y1)||(!y2.2)) then some y1 else
 (dw y2.1 with_.Txn).bind fun y4=>
 (engine_Ask y2.1 with_.Txn (⟨1,with_.Key,[],[],[],0⟩:Op_)).bind fun y5=>
 (if (!y4.2) then some true else
 if (!(decide ((y5.2.length:Int)=1))) then some true else
 (ix y5.2 0).bind fun x1=>
 some (!(decide (x1.Err=0)))).bind fun (y6:Bool)=>
 if y6 then some y1 else
 (ref05_Find y2.1.X.S.Data with_.Key).bind fun y7=>
 (loop (fun (s1:Str×Bool×Int)=>law13_EngineReads_l2 with_ y4 s1.1 s1.2.1 s1.2.2) (y7.1,y7.2,(0:Int))).bind fun (y8:Str×Bool)=>
 if y1 then
 (ix y5.2 0).bind fun x2=>
 if (decide (x2.Val=y8.1)) then
 if (x2.Found == y8.2) then some (decide (x2.Txn=with_.Txn)) else
 some false
 else
 some false
 else
 some false
theorem law13_EngineReads_walk {with_ r} (h:law13_EngineReads with_=some r):pP 4 [.agg (encEngineReadsIn with_)] (vB r):=by
 unfold law13_EngineReads at h
 refine pW0 Tryz.func4 rfl fun g=>go ?_
 refine cP h law13_shown_walk fun y1 h=>go ?_
 refine cP h law13_plays_walk fun y2 h=>gN 1 ?_
 refine k0 ⟨136,0,ab [(5,vI with_.Txn),(6,vS with_.Key),(7,vB y1),(8,.ptr 1 0),(37,vB ((!y1)||(!y2.2)))],[.gone,.var 39 (ag y2.1)]⟩ (go ?_) ((cC h rfl (fun c1 h=>eF) fun c1 h=>go ?_))
 refine cK (!y1) (fun i1=>go ?_) fun i1=>go ?_
 exact ⟨rfl,(wF (.g .rest) (.s (.s (.s (.s (.q (.all rfl)))))))⟩
 exact ⟨rfl,(wF (.g .rest) (.s (.s (.s (.s (.q (.all rfl)))))))⟩
 refine cP h cr fun y4 h=>go ?_
 refine cP h engine_Ask_walk fun y5 h=>gN 1 ?_
 refine k1 h (fun y6=>⟨136,0,ab [(5,vI with_.Txn),(6,vS with_.Key),(7,vB y1),(8,.ptr 1 0),(10,.ptr 2 0),(13,sL ak y5.2),(66,vB y6)],[.gone,.var 39 (ag y2.1),.var 46 (aB y4.1)]⟩) (fun y6 h=>go ?_) fun y6 h=>(cC h rfl (fun c2 h=>eF) fun c2 h=>go ?_)
 refine cM h (fun c3 h=>cE) fun c3 h=>⟨_,(aA _ _).symm,go ?_⟩
 refine cM h (fun c4 h=>cE) fun c4 h=>go ?_
 refine bD h fun x1 q1 h=>⟨(af q1).1,_,al ak (af q1).2,rfl,cE⟩
 refine cP h ref05_Find_walk fun y7 h=>go ?_
 refine lQ h (fun s1=>⟨136,0,ab [(5,vI with_.Txn),(6,vS with_.Key),(7,vB y1),(10,.ptr 2 0),(13,sL ak y5.2),(14,vS s1.1),(15,vB s1.2.1),(16,vI s1.2.2)],[.gone,.gone,.var 46 (aB y4.1)]⟩) (aO (.exit 0) (fun y8=>⟨136,0,ab [(5,vI with_.Txn),(7,vB y1),(13,sL ak y5.2),(14,vS y8.1),(15,vB y8.2)],[]⟩)) (wF (.s (.g .rest)) (.all rfl)) ?_ <|bO fun y8 _ h w=>wk w (go ?_)
 rintro y8 ⟨a1,a2,a3⟩ v1 h r
 replace h:law13_EngineReads_l2 with_ y4 a1 a2 a3=some v1:=h
 unfold law13_EngineReads_l2 at h
 dsimp only
 refine go ?_
 refine ⟨_,(aA _ _).symm,go ?_⟩
 refine cC h rfl (fun c5 h=>gN 1 ?_) fun c5 h=>xE
 refine k1 h (fun y9=>⟨136,0,ab [(5,vI with_.Txn),(6,vS with_.Key),(7,vB y1),(10,.ptr 2 0),(13,sL ak y5.2),(14,vS y9.1),(15,vB y9.2),(16,vI a3)],[.gone,.gone,.var 46 (aB y4.1)]⟩) (fun y9 h=>go ?_) fun y9 h=>cN
 refine bD h fun x2 q2 h=>⟨(af q2).1,_,al am (af q2).2,rfl,_,bs_eq _ _,go ?_⟩
 refine cC h rfl (fun c6 h=>go ?_) fun c6 h=>cE
 refine ⟨(af q2).1,_,al am (af q2).2,rfl,go ?_⟩
 refine ⟨(af q2).1,_,al am (af q2).2,rfl,go ?_⟩
 refine ⟨(af q2).1,_,al am (af q2).2,rfl,go ?_⟩
 exact cC h rfl (fun c7 h=>cE) fun c7 h=>cE
 refine cM h (fun c8 h=>go ?_) fun c8 h=>eF
 refine bD h fun x3 q3 h=>⟨(af q3).1,_,al ak (af q3).2,rfl,_,bs_eq _ _,go ?_⟩
 refine cM h (fun c9 h=>⟨(af q3).1,_,al ak (af q3).2,rfl,go ?_⟩) fun c9 h=>eF
 exact cM h (fun c10 h=>⟨(af q3).1,_,al ak (af q3).2,rfl,eF⟩) fun c10 h=>eF
def law13_EngineEnds_l38 (y1:Engine×(List Done)) (x1:Txn) (a1:Bool) (a2:Int):Option ((Bool×Int)⊕(Bool)):=
 if (decide (a2<(y1.2.length:Int))) then
 (if a1 then some true else
 (ix y1.2 a2).bind fun x2=>
 some (decide (x2.Txn=x1.Id))).bind fun (y2:Bool)=>
 some (.inl (y2,(IntKind.i64.wrap (a2+1))))
 else
 some (.inr a1)
def law13_EngineEnds_l32 (y1:Engine×Bool) (y2:Engine×(List Done)) (a1:Int):Option ((Int)⊕((Unit)⊕(Unit))):=
 if (decide (a1<(y1.1.T.length:Int))) then
 ((ix y1.1.T a1).bind fun x1=>
 if (!x1.Waits) then some (.inl ()) else
 (loop (fun (s1:Bool×Int)=>law13_EngineEnds_l38 y2 x1 s1.1 s1.2) (false,(0:Int))).bind fun (y4:Bool)=>
 if (!y4) then some (.inr ()) else
 some (.inl ())).bind fun (y5:(Unit)⊕(Unit))=>
 match y5 with
 |(.inl v1)=>
  some (.inl (IntKind.i64.wrap (a1+1)))
 |(.inr v2)=>
 some (.inr (.inl ()))
 else
 some (.inr (.inr ()))
def law13_EngineEnds (room:Int) (l:(List Act)):Option (Bool):=
 law13_shown.bind fun y1=>
 (law13_plays room l).bind fun y2=>
 if ((!y1)||((!y2.2)||(decide (y2.1.Now>4611686018427387904)))) then some y1 else
 (engine_Tick y2.1 (IntKind.u64.wrap (y2.1.Now+5))).bind fun y4=>
 (loop (fun (s1:Int)=>law13_EngineEnds_l32 y2 y4 s1) (0:Int)).bind fun (y5:(Unit)⊕(Unit))=>
 match y5 with
 |(.inl v1)=>
  some false
 |(.inr v2)=>
 some (decide ((y4.1.L.Queue.length:Int)=0))
theorem law13_EngineEnds_walk {room l r} (h:law13_EngineEnds room l=some r):pP 5 [vI room,sL encAct l] (vB r):=by
 unfold law13_EngineEnds at h
 refine pW0 Tryz.func5 rfl fun g=>go ?_
 refine cP h law13_shown_walk fun y1 h=>go ?_
 refine cP h law13_plays_walk fun y2 h=>gN 1 ?_
 refine k0 ⟨82,0,ab [(5,vB y1),(6,.ptr 0 0),(30,vB ((!y1)||((!y2.2)||(decide (y2.1.Now>4611686018427387904)))))],[.var 39 (ag y2.1)]⟩ (go ?_) ((cC h rfl (fun c1 h=>eF) fun c1 h=>go ?_))
 refine cK (!y1) (fun i1=>cI) fun i1=>go ?_
 exact cK (!y2.2) (fun i2=>cI) fun i2=>cI
 refine cP h engine_Tick_walk fun y4 h=>go ?_
 refine lQ h (fun s1=>⟨82,0,ab [(6,.ptr 0 0),(8,.ptr 1 0),(9,sL ak y4.2),(10,vI s1)],[.var 39 (ag y2.1),.var 39 (ag y4.1)]⟩) (Sum.elim (aO .ret (fun _=>⟨82,0,ab [(4,vB false)],[]⟩)) (aO (.exit 0) (fun _=>⟨82,0,ab [(8,.ptr 1 0)],[.gone,.var 39 (ag y4.1)]⟩))) wA ?_ <|bE (bO fun v1 _ h w=>eFw)<|bO fun v2 _ h w=>wk w (go ?_)
 rintro y5 a1 v3 h r
 replace h:law13_EngineEnds_l32 y2 y4 a1=some v3:=h
 unfold law13_EngineEnds_l32 at h
 refine go ?_
 refine ⟨_,(aA _ _).symm,go ?_⟩
 refine cC h rfl (fun c2 h=>gN 1 ?_) fun c2 h=>go ?_
 refine kS h (Sum.elim (aO .normal (fun _=>⟨82,0,ab [(6,.ptr 0 0),(8,.ptr 1 0),(9,sL ak y4.2),(10,vI a1)],[.var 39 (ag y2.1),.var 39 (ag y4.1)]⟩)) (aO .ret (fun _=>⟨82,0,ab [(4,vB false)],[]⟩))) (fun y6 h=>go ?_)<|bE (bO fun v4 _ h w=>wk w cN)<|bO fun v5 _ h w=>xEw
 refine bD h fun x1 q1 h=>⟨(af q1).1,_,al aB (af q1).2,rfl,go ?_⟩
 refine cC h rfl (fun c3 h=>cE) fun c3 h=>go ?_
 refine lQ h (fun s2=>⟨82,0,ab [(6,.ptr 0 0),(8,.ptr 1 0),(9,sL ak y4.2),(10,vI a1),(11,vB s2.1),(12,vI s2.2)],[.var 39 (ag y2.1),.var 39 (ag y4.1)]⟩) (aO (.exit 2) (fun y7=>⟨82,0,ab [(6,.ptr 0 0),(8,.ptr 1 0),(9,sL ak y4.2),(10,vI a1),(11,vB y7)],[.var 39 (ag y2.1),.var 39 (ag y4.1)]⟩)) wA ?_ <|bO fun y7 _ h w=>wk w (go ?_)
 rintro y7 ⟨a2,a3⟩ v6 h r
 replace h:law13_EngineEnds_l38 y4 x1 a2 a3=some v6:=h
 unfold law13_EngineEnds_l38 at h
 dsimp only
 refine go ?_
 refine ⟨_,(aA _ _).symm,go ?_⟩
 refine cC h rfl (fun c4 h=>gN 1 ?_) fun c4 h=>xE
 refine k1 h (fun y8=>⟨82,0,ab [(6,.ptr 0 0),(8,.ptr 1 0),(9,sL ak y4.2),(10,vI a1),(11,vB y8),(12,vI a3)],[.var 39 (ag y2.1),.var 39 (ag y4.1)]⟩) (fun y8 h=>go ?_) fun y8 h=>cN
 refine cp.one 16 (.k [0,1,2,3,4,5,6,7,8,9,10,11,12,13,14,15] .fin) [] (by kernel_rfl) (go ?_)
 refine cM h (fun c5 h=>cE) fun c5 h=>go ?_
 refine bD h fun x2 q2 h=>⟨(af q2).1,_,al ak (af q2).2,rfl,(af q1).1,_,al aB (af q1).2,rfl,cE⟩
 exact cC h rfl (fun c6 h=>cE) fun c6 h=>cE
 cases h
 obtain rfl:=r _ rfl
 exact ⟨rfl,(wF (.g .rest) (.all rfl))⟩
 refine ⟨_,(aA _ _).symm,eF⟩
def ref05_Same_l2 (a b:(List Pair)) (a1:Int):Option ((Int)⊕((Unit)⊕(Unit))):=
 if (decide (a1<(a.length:Int))) then
 (ix a a1).bind fun x1=>
 (ix b a1).bind fun x2=>
 if (!(decide (x1=x2))) then some (.inr (.inl ())) else
 some (.inl (IntKind.i64.wrap (a1+1)))
 else
 some (.inr (.inr ()))
def ref05_Same (a b:(List Pair)):Option (Bool):=
 if (!(decide ((a.length:Int)=(b.length:Int)))) then some false else
 (loop (fun (s1:Int)=>ref05_Same_l2 a b s1) (0:Int)).bind fun (y1:(Unit)⊕(Unit))=>
 match y1 with
 |(.inl v1)=>
  some false
 |(.inr v2)=>
 some true
theorem ref05_Same_walk {a b r} (h:ref05_Same a b=some r):pP 35 [sL ac a,sL ac b] (vB r):=by
 unfold ref05_Same at h
 refine pW0 Tryz.func35 rfl fun g=>go ?_
 refine ⟨_,(aA _ _).symm,_,(aA _ _).symm,go ?_⟩
 refine cC h rfl (fun c1 h=>eF) fun c1 h=>go ?_
 refine lQ h (fun s1=>⟨26,0,ab [(0,sL ac a),(1,sL ac b),(5,vI s1)],[]⟩) (Sum.elim (aO .ret (fun _=>⟨26,0,ab [(4,vB false)],[]⟩)) (aO (.exit 0) (fun _=>⟨26,0,ab [],[]⟩))) wA ?_ <|bE (bO fun v1 _ h w=>eFw)<|bO fun v2 _ h w=>wk w eF
 rintro y1 a1 v3 h r
 replace h:ref05_Same_l2 a b a1=some v3:=h
 unfold ref05_Same_l2 at h
 refine go ?_
 refine ⟨_,(aA _ _).symm,go ?_⟩
 refine cC h rfl (fun c3 h=>go ?_) fun c3 h=>xE
 refine cp.one 9 (.k [0,1,2,3,4,5,6,7,8] .fin) [] (by kernel_rfl) (go ?_)
 refine bD h fun x1 q1 h=>⟨(af q1).1,_,al ac (af q1).2,rfl,go ?_⟩
 refine bD h fun x2 q2 h=>⟨(af q2).1,_,al ac (af q2).2,rfl,(!(decide (x1=x2))),congrArg Bool.not (eq_Pair _ _),go ?_⟩
 exact cC h rfl (fun c4 h=>xE) fun c4 h=>cN
def ref07_Same (a b:State):Option (Bool):=
 (ref05_Same a.Data b.Data).bind fun y1=>
 if y1 then
 (ref05_Same a.Toks b.Toks).bind fun y2=>
 some y2
 else
 some false
theorem ref07_Same_walk {a b r} (h:ref07_Same a b=some r):pP 19 [.agg (encState a),.agg (encState b)] (vB r):=by
 unfold ref07_Same at h
 refine pW0 Tryz.func19 rfl fun g=>go ?_
 refine cP h ref05_Same_walk fun y1 h=>go ?_
 refine cM h (fun c1 h=>go ?_) fun c1 h=>eF
 exact cP h ref05_Same_walk fun y2 h=>eF
def law13_EngineLasts (room:Int) (l:(List Act)):Option (Bool):=
 law13_shown.bind fun y1=>
 (law13_plays room l).bind fun y2=>
 if ((!y1)||((!y2.2)||y2.1.X.Down)) then some y1 else
 (engine_Crash y2.1 []).bind fun y4=>
 if (decide (y4.2=5)) then some true else
 if (decide (y4.2=0)) then
 (ref07_Same y4.1.X.S y2.1.X.S).bind fun y5=>
 if y5 then
 if (decide ((y4.1.T.length:Int)=0)) then
 if (decide ((y4.1.L.Held.length:Int)=0)) then some (decide ((y4.1.L.Queue.length:Int)=0)) else
 some false
 else
 some false
 else
 some false
 else
 some false
theorem law13_EngineLasts_walk {room l r} (h:law13_EngineLasts room l=some r):pP 6 [vI room,sL encAct l] (vB r):=by
 unfold law13_EngineLasts at h
 refine pW0 Tryz.func6 rfl fun g=>go ?_
 refine cP h law13_shown_walk fun y1 h=>go ?_
 refine cP h law13_plays_walk fun y2 h=>gN 1 ?_
 refine k0 ⟨67,0,ab [(5,vB y1),(6,.ptr 0 0),(27,vB ((!y1)||((!y2.2)||y2.1.X.Down)))],[.var 39 (ag y2.1)]⟩ (go ?_) ((cC h rfl (fun c1 h=>eF) fun c1 h=>go ?_))
 refine cK (!y1) (fun i1=>cI) fun i1=>go ?_
 exact cK (!y2.2) (fun i2=>cI) fun i2=>cI
 refine cP h engine_Crash_walk fun y4 h=>go ?_
 refine cC h rfl (fun c2 h=>eF) fun c2 h=>go ?_
 refine cM h (fun c3 h=>go ?_) fun c3 h=>eF
 refine cP h ref07_Same_walk fun y5 h=>go ?_
 refine cM h (fun c4 h=>⟨_,(aA _ _).symm,go ?_⟩) fun c4 h=>eF
 refine cM h (fun c5 h=>⟨_,(aA _ _).symm,go ?_⟩) fun c5 h=>eF
 exact cM h (fun c6 h=>⟨_,(aA _ _).symm,eF⟩) fun c6 h=>eF
def ref05_Writes_l2 (a b:(List Write)) (a1:Int):Option ((Int)⊕((Unit)⊕(Unit))):=
 if (decide (a1<(a.length:Int))) then
 (ix a a1).bind fun x1=>
 (ix b a1).bind fun x2=>
 if (!(decide (x1=x2))) then some (.inr (.inl ())) else
 some (.inl (IntKind.i64.wrap (a1+1)))
 else
 some (.inr (.inr ()))
def ref05_Writes (a b:(List Write)):Option (Bool):=
 if (!(decide ((a.length:Int)=(b.length:Int)))) then some false else
 (loop (fun (s1:Int)=>ref05_Writes_l2 a b s1) (0:Int)).bind fun (y1:(Unit)⊕(Unit))=>
 match y1 with
 |(.inl v1)=>
  some false
 |(.inr v2)=>
 some true
theorem ref05_Writes_walk {a b r} (h:ref05_Writes a b=some r):pP 20 [sL am a,sL am b] (vB r):=by
 unfold ref05_Writes at h
 refine pW0 Tryz.func20 rfl fun g=>go ?_
 refine ⟨_,(aA _ _).symm,_,(aA _ _).symm,go ?_⟩
 refine cC h rfl (fun c1 h=>eF) fun c1 h=>go ?_
 refine lQ h (fun s1=>⟨26,0,ab [(0,sL am a),(1,sL am b),(5,vI s1)],[]⟩) (Sum.elim (aO .ret (fun _=>⟨26,0,ab [(4,vB false)],[]⟩)) (aO (.exit 0) (fun _=>⟨26,0,ab [],[]⟩))) wA ?_ <|bE (bO fun v1 _ h w=>eFw)<|bO fun v2 _ h w=>wk w eF
 rintro y1 a1 v3 h r
 replace h:ref05_Writes_l2 a b a1=some v3:=h
 unfold ref05_Writes_l2 at h
 refine go ?_
 refine ⟨_,(aA _ _).symm,go ?_⟩
 refine cC h rfl (fun c3 h=>go ?_) fun c3 h=>xE
 refine cp.one 9 (.k [0,1,2,3,4,5,6,7,8] .fin) [] (by kernel_rfl) (go ?_)
 refine bD h fun x1 q1 h=>⟨(af q1).1,_,al am (af q1).2,rfl,go ?_⟩
 refine bD h fun x2 q2 h=>⟨(af q2).1,_,al am (af q2).2,rfl,(!(decide (x1=x2))),congrArg Bool.not (eq_Write _ _),go ?_⟩
 exact cC h rfl (fun c4 h=>xE) fun c4 h=>cN
def law13_EngineOwn (with_:EngineOwnIn):Option (Bool):=
 law13_shown.bind fun y1=>
 (law13_plays with_.Room with_.L).bind fun y2=>
 if ((!y1)||((!y2.2)||(decide (with_.Txn=with_.Other)))) then some y1 else
 (dw y2.1 with_.Other).bind fun y4=>
 (engine_Ask y2.1 with_.Txn with_.Op).bind fun y5=>
 (dw y5.1 with_.Other).bind fun y6=>
 if (!y4.2) then some (!y6.2) else
 if (!y6.2) then some y4.1.Waits else
 if (decide (y6.1.Token=y4.1.Token)) then
 if y4.1.Waits then some true else
 (ref05_Writes y4.1.Writes y6.1.Writes).bind fun y7=>
 if y7 then some (!y6.1.Waits) else
 some false
 else
 some false
theorem law13_EngineOwn_walk {with_ r} (h:law13_EngineOwn with_=some r):pP 7 [.agg (encEngineOwnIn with_)] (vB r):=by
 unfold law13_EngineOwn at h
 refine pW0 Tryz.func7 rfl fun g=>go ?_
 refine cP h law13_shown_walk fun y1 h=>go ?_
 refine cP h law13_plays_walk fun y2 h=>gN 1 ?_
 refine k0 ⟨94,0,ab [(5,vI with_.Txn),(6,.ptr 1 0),(7,vI with_.Other),(8,vB y1),(9,.ptr 2 0),(44,vB ((!y1)||((!y2.2)||(decide (with_.Txn=with_.Other)))))],[.gone,.var 44 (encOp_ with_.Op),.var 39 (ag y2.1)]⟩ (go ?_) ((cC h rfl (fun c1 h=>eF) fun c1 h=>go ?_))
 refine cK (!y1) (fun i1=>go ?_) fun i1=>go ?_
 exact ⟨rfl,(wF (.g .rest) (.s (.s (.s (.s (.s (.q (.all rfl))))))))⟩
 refine cK (!y2.2) (fun i2=>go ?_) fun i2=>go ?_
 exact ⟨rfl,(wF (.g .rest) (.s (.s (.s (.s (.s (.q (.all rfl))))))))⟩
 exact ⟨rfl,(wF (.g .rest) (.s (.s (.s (.s (.s (.q (.all rfl))))))))⟩
 refine cP h cr fun y4 h=>go ?_
 refine cP h engine_Ask_walk fun y5 h=>go ?_
 refine cP h cr fun y6 h=>go ?_
 refine cC h rfl (fun c2 h=>eF) fun c2 h=>go ?_
 refine cC h rfl (fun c3 h=>eF) fun c3 h=>go ?_
 refine ⟨_,bs_eq _ _,go ?_⟩
 refine cM h (fun c4 h=>go ?_) fun c4 h=>eF
 refine cM h (fun c5 h=>eF) fun c5 h=>go ?_
 refine cP h ref05_Writes_walk fun y7 h=>go ?_
 exact cM h (fun c6 h=>eF) fun c6 h=>eF
def dl (y1:Engine×Bool) (a1:Int) (x1:Txn) (a2:Int):Option ((Int)⊕((Unit)⊕(Unit))):=
 if (decide (a2<a1)) then
 ((ix y1.1.T a2).bind fun x2=>
 if (decide (x2.Token=x1.Token)) then some true else
 some (decide (x2.Id≥x1.Id))).bind fun (y2:Bool)=>
 if y2 then some (.inr (.inl ())) else
 some (.inl (IntKind.i64.wrap (a2+1)))
 else
 some (.inr (.inr ()))
def dm (y1:Engine×Bool) (a1:Int):Option ((Int)⊕((Unit)⊕(Unit))):=
 if (decide (a1<(y1.1.T.length:Int))) then
 (ix y1.1.T a1).bind fun x1=>
 (ref05_Find y1.1.X.S.Toks x1.Token).bind fun y2=>
 if (y2.2||(decide (x1.Id≥y1.1.Next))) then some (.inr (.inl ())) else
 (loop (fun (s1:Int)=>dl y1 a1 x1 s1) (0:Int)).bind fun (y4:(Unit)⊕(Unit))=>
 match y4 with
 |(.inl v1)=>
  some (.inr (.inl ()))
 |(.inr v2)=>
 some (.inl (IntKind.i64.wrap (a1+1)))
 else
 some (.inr (.inr ()))
def law13_EngineTokens (room:Int) (l:(List Act)):Option (Bool):=
 law13_shown.bind fun y1=>
 (law13_plays room l).bind fun y2=>
 if ((!y1)||(!y2.2)) then some y1 else
 (loop (fun (s1:Int)=>dm y2 s1) (0:Int)).bind fun (y4:(Unit)⊕(Unit))=>
 match y4 with
 |(.inl v1)=>
  some false
 |(.inr v2)=>
 some (decide ((y2.1.X.S.Toks.length:Int)≤64))
theorem law13_EngineTokens_walk {room l r} (h:law13_EngineTokens room l=some r):pP 8 [vI room,sL encAct l] (vB r):=by
 unfold law13_EngineTokens at h
 refine pW0 Tryz.func8 rfl fun g=>go ?_
 refine cP h law13_shown_walk fun y1 h=>go ?_
 refine cP h law13_plays_walk fun y2 h=>gN 1 ?_
 refine k0 ⟨98,0,ab [(5,vB y1),(6,.ptr 0 0),(24,vB ((!y1)||(!y2.2)))],[.var 39 (ag y2.1)]⟩ (go ?_) ((cC h rfl (fun c1 h=>eF) fun c1 h=>go ?_))
 exact cK (!y1) (fun i1=>cI) fun i1=>cI
 refine lQ h (fun s1=>⟨98,0,ab [(6,.ptr 0 0),(8,vI s1)],[.var 39 (ag y2.1)]⟩) (Sum.elim (aO .ret (fun _=>⟨98,0,ab [(4,vB false)],[]⟩)) (aO (.exit 0) (fun _=>⟨98,0,ab [(6,.ptr 0 0)],[.var 39 (ag y2.1)]⟩))) wA ?_ <|bE (bO fun v1 _ h w=>eFw)<|bO fun v2 _ h w=>wk w (go ?_)
 rintro y4 a1 v3 h r
 replace h:dm y2 a1=some v3:=h
 unfold dm at h
 refine go ?_
 refine ⟨_,(aA _ _).symm,go ?_⟩
 refine cC h rfl (fun c2 h=>go ?_) fun c2 h=>xE
 refine cp.one 16 (.k [0,1,2,3,4,5,6,7,8,9] (.o 10 (.k [11,12,13,14,15] .fin))) [] (by kernel_rfl) (go ?_)
 refine bD h fun x1 q1 h=>⟨(af q1).1,_,al aB (af q1).2,rfl,go ?_,⟨⟩⟩
 refine cP h ref05_Find_walk fun y5 h=>gN 1 ?_
 refine k0 ⟨98,0,ab [(6,.ptr 0 0),(8,vI a1),(58,vB (y5.2||(decide (x1.Id≥y2.1.Next))))],[.var 39 (ag y2.1)]⟩ (go ?_) ((cC h rfl (fun c3 h=>xE) fun c3 h=>go ?_))
 refine cp.one 12 (.k [0,1,2,3,4,5,6,7,8,9,10,11] .fin) [] (by kernel_rfl) (go ?_)
 exact cK (y5.2) (fun i1=>cI) fun i1=>⟨(af q1).1,_,al aB (af q1).2,rfl,cI⟩
 refine lQ h (fun s2=>⟨98,0,ab [(6,.ptr 0 0),(8,vI a1),(11,vI s2)],[.var 39 (ag y2.1)]⟩) (Sum.elim (aO .ret (fun _=>⟨98,0,ab [(4,vB false)],[]⟩)) (aO (.exit 2) (fun _=>⟨98,0,ab [(6,.ptr 0 0),(8,vI a1)],[.var 39 (ag y2.1)]⟩))) wA ?_ <|bE (bO fun v4 _ h w=>xEw)<|bO fun v5 _ h w=>wk w cN
 rintro y6 a2 v6 h r
 replace h:dl y2 a1 x1 a2=some v6:=h
 unfold dl at h
 refine go ?_
 refine cC h rfl (fun c4 h=>gN 3 ?_) fun c4 h=>xE
 refine k1 h (fun y7=>⟨98,0,ab [(6,.ptr 0 0),(8,vI a1),(11,vI a2),(91,vB y7)],[.var 39 (ag y2.1)]⟩) (fun y7 h=>go ?_) fun y7 h=>?_
 refine cp.one 28 (.k [0,1,2,3,4,5,6,7,8,9,10,11,12,13,14,15,16,17,18,19,20,21,22,23,24,25,26,27] .fin) [] (by kernel_rfl) (go ?_)
 refine bD h fun x2 q2 h=>⟨(af q2).1,_,al aB (af q2).2,rfl,(af q1).1,_,al aB (af q1).2,rfl,_,bs_eq _ _,go ?_⟩
 exact cM h (fun c5 h=>cE) fun c5 h=>⟨(af q2).1,_,al aB (af q2).2,rfl,(af q1).1,_,al aB (af q1).2,rfl,cE⟩
 exact cC h rfl (fun c6 h=>xE) fun c6 h=>cN
 refine ⟨_,(aA _ _).symm,eF⟩
def law13_EngineAsked_l2 (with_:EngineAskedIn) (y1:Engine×Bool) (y2:Engine×(List Done)) (a1 a2:Int):Option ((Int×Int)⊕((Unit)⊕(Int))):=
 if (decide (a2<(y2.2.length:Int))) then
 ((ix y2.2 a2).bind fun x1=>
 if (decide (x1.Txn=with_.Txn)) then some (.inl (IntKind.i64.wrap (a1+1))) else
 (dw y1.1 x1.Txn).bind fun y4=>
 if ((!y4.2)||(!y4.1.Waits)) then some (.inr ()) else
 some (.inl a1)).bind fun (y5:(Int)⊕(Unit))=>
 match y5 with
 |(.inl v1)=>
  some (.inl (v1,(IntKind.i64.wrap (a2+1))))
 |(.inr v2)=>
 some (.inr (.inl ()))
 else
 some (.inr (.inr a1))
def law13_EngineAsked (with_:EngineAskedIn):Option (Bool):=
 law13_shown.bind fun y1=>
 (law13_plays with_.Room with_.L).bind fun y2=>
 if ((!y1)||(!y2.2)) then some y1 else
 (engine_Ask y2.1 with_.Txn with_.Op).bind fun y4=>
 (loop (fun (s1:Int×Int)=>law13_EngineAsked_l2 with_ y2 y4 s1.1 s1.2) ((0:Int),(0:Int))).bind fun (y5:(Unit)⊕(Int))=>
 match y5 with
 |(.inl v1)=>
  some false
 |(.inr v2)=>
 (dw y4.1 with_.Txn).bind fun y6=>
 if (decide (v2=1)) then
 if (!y6.2) then some true else
 if (!y6.1.Waits) then some true else
 (ix y4.2 0).bind fun x1=>
 if (decide (x1.Err=9)) then some true else
 if (decide (v2=0)) then
 if y6.2 then some y6.1.Waits else
 some false
 else
 some false
 else
 if (decide (v2=0)) then
 if y6.2 then some y6.1.Waits else
 some false
 else
 some false
theorem law13_EngineAsked_walk {with_ r} (h:law13_EngineAsked with_=some r):pP 9 [.agg (encEngineAskedIn with_)] (vB r):=by
 unfold law13_EngineAsked at h
 refine pW0 Tryz.func9 rfl fun g=>go ?_
 refine cP h law13_shown_walk fun y1 h=>go ?_
 refine cP h law13_plays_walk fun y2 h=>gN 1 ?_
 refine k0 ⟨114,0,ab [(5,vI with_.Txn),(6,.ptr 1 0),(7,vB y1),(8,.ptr 2 0),(38,vB ((!y1)||(!y2.2)))],[.gone,.var 44 (encOp_ with_.Op),.var 39 (ag y2.1)]⟩ (go ?_) ((cC h rfl (fun c1 h=>eF) fun c1 h=>go ?_))
 refine cK (!y1) (fun i1=>go ?_) fun i1=>go ?_
 exact ⟨rfl,(wF (.g .rest) (.s (.s (.s (.s (.q (.all rfl)))))))⟩
 exact ⟨rfl,(wF (.g .rest) (.s (.s (.s (.s (.q (.all rfl)))))))⟩
 refine cP h engine_Ask_walk fun y4 h=>go ?_
 refine lQ h (fun s1=>⟨114,0,ab [(5,vI with_.Txn),(8,.ptr 2 0),(10,.ptr 3 0),(11,sL ak y4.2),(12,vI s1.1),(13,vI s1.2)],[.gone,.gone,.var 39 (ag y2.1),.var 39 (ag y4.1)]⟩) (Sum.elim (aO .ret (fun _=>⟨114,0,ab [(2,vB false)],[]⟩)) (aO (.exit 0) (fun v1=>⟨114,0,ab [(5,vI with_.Txn),(10,.ptr 3 0),(11,sL ak y4.2),(12,vI v1)],[.gone,.gone,.gone,.var 39 (ag y4.1)]⟩))) (wF (.s (.g .rest)) (.all rfl)) ?_ <|bE (bO fun v2 _ h w=>eFw)<|bO fun v1 _ h w=>wk w (go ?_)
 rintro y5 ⟨a1,a2⟩ v3 h r
 replace h:law13_EngineAsked_l2 with_ y2 y4 a1 a2=some v3:=h
 unfold law13_EngineAsked_l2 at h
 dsimp only
 refine go ?_
 refine ⟨_,(aA _ _).symm,go ?_⟩
 refine cC h rfl (fun c2 h=>gN 1 ?_) fun c2 h=>go ?_
 refine kS h (Sum.elim (aO .normal (fun v4=>⟨114,0,ab [(5,vI with_.Txn),(8,.ptr 2 0),(10,.ptr 3 0),(11,sL ak y4.2),(12,vI v4),(13,vI a2)],[.gone,.gone,.var 39 (ag y2.1),.var 39 (ag y4.1)]⟩)) (aO .ret (fun _=>⟨114,0,ab [(2,vB false)],[]⟩))) (fun y6 h=>go ?_)<|bE (bO fun v4 _ h w=>wk w cN)<|bO fun v5 _ h w=>xEw
 refine bD h fun x1 q1 h=>⟨(af q1).1,_,al ak (af q1).2,rfl,go ?_⟩
 refine cC h rfl (fun c3 h=>cE) fun c3 h=>go ?_
 obtain ⟨y7,q2,h⟩:=bind_some h
 refine cp.many 12 (.k [0,1,2,3,4,5] (.alt 6 (.k [7,8,9] (.o 10 (.o 11 .fin))) (.o 10 (.o 6 (.k [7,8,9] (.o 11 .fin)))))) [4,5,6,7,8,9] (⟨114,0,ab [(5,vI with_.Txn),(8,.ptr 2 0),(10,.ptr 3 0),(11,sL ak y4.2),(12,vI a1),(13,vI a2),(14,.ptr 4 0),(71,vB y7.2)],[.gone,.gone,.var 39 (ag y2.1),.var 39 (ag y4.1),.var 46 (aB y7.1)]⟩) (by kernel_rfl) ⟨(af q1).1,_,al ak (af q1).2,rfl,go ?_,⟨⟨go ?_,⟨⟩⟩,⟨⟩⟩⟩ (gN 0 ?_)
 exact mP (cr q2) ⟨⟨cA,⟨⟩⟩,⟨⟩⟩
 exact mP (cr q2) ⟨cA,⟨⟩⟩
 refine k0 ⟨114,0,ab [(5,vI with_.Txn),(8,.ptr 2 0),(10,.ptr 3 0),(11,sL ak y4.2),(12,vI a1),(13,vI a2),(78,vB ((!y7.2)||(!y7.1.Waits)))],[.gone,.gone,.var 39 (ag y2.1),.var 39 (ag y4.1)]⟩ (go ?_) ?_
 exact cK (!y7.2) (fun i1=>cI) fun i1=>cI
 exact cC h rfl (fun c4 h=>cE) fun c4 h=>cE
 cases h
 obtain rfl:=r _ rfl
 exact ⟨rfl,(wF (.s (.s (.g .rest))) (.all rfl))⟩
 refine cP h cr fun y8 h=>go ?_
 refine cM h (fun c5 h=>go ?_) fun c5 h=>go ?_
 refine cM h (fun c6 h=>eF) fun c6 h=>go ?_
 refine cM h (fun c7 h=>eF) fun c7 h=>go ?_
 refine bD h fun x2 q3 h=>⟨(af q3).1,_,al ak (af q3).2,rfl,go ?_⟩
 refine cM h (fun c8 h=>eF) fun c8 h=>go ?_
 refine cM h (fun c9 h=>go ?_) fun c9 h=>eF
 exact cM h (fun c10 h=>eF) fun c10 h=>eF
 refine cM h (fun c11 h=>go ?_) fun c11 h=>eF
 exact cM h (fun c12 h=>eF) fun c12 h=>eF
end
end Go.Ab
namespace Go.Ab
set_option linter.unusedVariables false
set_option linter.unusedSimpArgs false
theorem aP {α:Type} {l:List α} {k:Nat} (h:k<l.length):ix l (k:Int)=some l[k]:=by unfold ix;simp [h]
theorem ltS_nil (a:Str):ltS a []=false:=by cases a<;>rfl
theorem ltS_cons (a b:UInt8) (x y:Str):ltS (a::x) (b::y)=(decide (a<b)||(a == b&&ltS x y)):=rfl
theorem ltS_irr (a:Str):ltS a a=false:=by
 induction a with
 |nil=>rfl
 |cons c r ih=>rw [ltS_cons,ih];simp
theorem ltS_tri (a:Str): ∀b,ltS a b=true∨a=b∨ltS b a=true:=by
 induction a with
 |nil=>intro b;cases b with
  |nil=>exact .inr (.inl rfl)
  |cons c r=>exact .inl rfl
 |cons c r ih=>
  intro b
  cases b with
  |nil=>exact .inr (.inr rfl)
  |cons d s=>
   rw [ltS_cons,ltS_cons]
   rcases Nat.lt_trichotomy c.toNat d.toNat with h|h|h
   ·exact .inl (by simp [UInt8.lt_iff_toNat_lt,h])
   ·have:c=d:=UInt8.toNat_inj.1 h
    subst this
    rcases ih s with h|h|h
    ·exact .inl (by simp [h])
    ·exact .inr (.inl (by rw [h]))
    ·exact .inr (.inr (by simp [h]))
   ·exact .inr (.inr (by simp [UInt8.lt_iff_toNat_lt,h]))
theorem ltS_trans (a:Str): ∀ {b c:Str},ltS a b=true→ltS b c=true→ltS a c=true:=by
 induction a with
 |nil=>
  intro b c h1 h2
  cases c with
  |nil=>rw [ltS_nil] at h2;cases h2
  |cons d s=>rfl
 |cons x r ih=>
  intro b c h1 h2
  cases b with
  |nil=>rw [ltS_nil] at h1;cases h1
  |cons y s=>
   cases c with
   |nil=>rw [ltS_nil] at h2;cases h2
   |cons z t=>
    rw [ltS_cons] at*
    simp only [Bool.or_eq_true,Bool.and_eq_true,decide_eq_true_eq,beq_iff_eq,UInt8.lt_iff_toNat_lt] at*
    rcases h1 with h1|⟨rfl,h1⟩<;>rcases h2 with h2|⟨rfl,h2⟩
    ·exact .inl (by omega)
    ·exact .inl h1
    ·exact .inl h2
    ·exact .inr ⟨rfl,ih h1 h2⟩
theorem less_loop (a b:Str) (ha:a.length≤1099511627776): ∀(m k:Nat),k+m=a.length→k≤b.length→
 ((loop (fun (s167:Int)=>ref01_Less_l2 a b s167) (k:Int)).bind fun (y163:(Bool)⊕(Unit))=>
   match y163 with
   |(.inl v165)=>some v165
   |(.inr v166)=>some (decide ((a.length:Int)<(b.length:Int))))=some (ltS (a.drop k) (b.drop k)):=by
 intro m
 induction m with
 |zero=>
  intro k hk hb
  have e:a.drop k=[]:=List.drop_eq_nil_of_le (by omega)
  rw [aF (r:= .inr ())]
  ·simp only [Option.bind_some]
   rw [e]
   by_cases hl:k<b.length
   ·rw [List.drop_eq_getElem_cons hl]
    simp [ltS,Op.bytesLess];omega
   ·rw [List.drop_eq_nil_of_le (by omega),ltS_nil]
    simp;omega
  ·unfold ref01_Less_l2
   rw [if_neg (by simp;omega)]
 |succ m ih=>
  intro k hk hb
  have hka:k<a.length:=by omega
  by_cases hl:k<b.length
  ·have hstep:ref01_Less_l2 a b (k:Int)=if a[k]=b[k] then some (.inl ((k+1:Nat):Int)) else some (.inr (.inl (decide ((a[k].toNat:Int)<(b[k].toNat:Int))))):=by
    unfold ref01_Less_l2
    rw [if_pos (by simp;omega),aP hka]
    simp only [Option.bind_some]
    rw [aP hl]
    simp only [Option.bind_some]
    by_cases he:a[k]=b[k]
    ·rw [if_neg (by simp [he]),if_pos he,IntWalk.i64_in _ ⟨by omega,by omega⟩];rfl
    ·rw [if_pos (by
      simp only [Bool.not_eq_true',decide_eq_false_iff_not]
      intro h;exact he (UInt8.toNat_inj.1 (by omega))),if_neg he]
   rw [List.drop_eq_getElem_cons hka,List.drop_eq_getElem_cons hl,ltS_cons]
   by_cases he:a[k]=b[k]
   ·rw [if_pos he] at hstep
    rw [bz hstep,ih (k+1) (by omega) (by omega),he]
    simp
   ·rw [if_neg he] at hstep
    rw [aF hstep]
    simp only [Option.bind_some]
    congr 1
    have:(a[k] == b[k])=false:=by simpa using he
    rw [this]
    simp [UInt8.lt_iff_toNat_lt]
  ·rw [aF (r:= .inr ())]
   ·simp only [Option.bind_some]
    rw [List.drop_eq_nil_of_le (show b.length≤k by omega),ltS_nil]
    simp;omega
   ·unfold ref01_Less_l2
    rw [if_neg (by simp;omega)]
theorem rless_eq {a b:Str} (ha:a.length≤1099511627776):ref01_Less a b=some (ltS a b):=by
 have:=less_loop a b ha a.length 0 (by omega) (by omega)
 unfold ref01_Less
 simp only [Int.natCast_zero,Int.ofNat_eq_natCast,List.drop_zero] at this
 exact this
end Go.Ab
namespace Go.Ab
set_option linter.unusedVariables false
set_option linter.unusedSimpArgs false
def leS (a b:Str):Bool:=ltS a b||decide (a=b)
theorem leS_iff (a b:Str):leS a b=true↔ltS b a=false:=by
 unfold leS
 rcases ltS_tri a b with h|h|h
 ·rw [h];simp
  cases hb:ltS b a with
  |false=>rfl
  |true=>have:=ltS_trans a h hb;rw [ltS_irr] at this;cases this
 ·subst h;simp [ltS_irr]
 ·rw [h];simp
  refine ⟨?_,fun e=> ?_⟩
  ·cases ha:ltS a b with
   |false=>rfl
   |true=>have:=ltS_trans a ha h;rw [ltS_irr] at this;cases this
  ·subst e;rw [ltS_irr] at h;cases h
def emptyM (w:Want):Bool:=decide (w.Hi≠[])&&leS w.Hi w.Lo
def mayM2 (w:Want):Bool:=(decide (w.Mode=1)||decide (w.Mode=2))&& !emptyM w
def inM (w:Want) (key:Str):Bool:=(!ltS key w.Lo)&&(decide (w.Hi=[])||ltS key w.Hi)
def overM (a b:Want):Bool:=(!emptyM a)&&(!emptyM b)&&(inM a b.Lo||inM b a.Lo)
def clashM (a b:Want):Bool:=overM a b&&(decide (a.Mode=2)||decide (b.Mode=2))
theorem empty_eq (w:Want):span_empty w=some (emptyM w):=by
 unfold span_empty emptyM leS
 by_cases h:w.Hi=[]<;>simp [h]
theorem sin_eq (w:Want) (key:Str):span_In w key=some (inM w key):=by
 unfold span_In inM
 cases ltS key w.Lo<;>by_cases h:w.Hi=[]<;>simp [h]
theorem smay_eq (w:Want):span_May w=some (mayM2 w):=by
 unfold span_May mayM2
 rw [empty_eq]
 by_cases h1:w.Mode=1<;>by_cases h2:w.Mode=2<;>cases emptyM w<;>simp [h1,h2]
theorem over_eq (a b:Want):span_Overlap a b=some (overM a b):=by
 unfold span_Overlap overM
 rw [empty_eq,empty_eq,sin_eq,sin_eq]
 cases emptyM a<;>cases emptyM b<;>cases inM a b.Lo<;>cases inM b a.Lo<;>rfl
theorem clash_eq (a b:Want):span_Clash a b=some (clashM a b):=by
 unfold span_Clash clashM
 rw [over_eq]
 cases overM a b<;>by_cases h1:a.Mode=2<;>by_cases h2:b.Mode=2<;>simp [h1,h2]
def wOk (w:Want):Prop:=w.Lo.length≤1099511627776∧w.Hi.length≤1099511627776
theorem rin_eq {w:Want} {key:Str} (hw:wOk w) (hk:key.length≤1099511627776):ref09_In w key=some (inM w key):=by
 unfold ref09_In inM
 rw [rless_eq hk,rless_eq hk]
 cases ltS key w.Lo<;>by_cases h:w.Hi=[]<;>simp [h]
end Go.Ab
namespace Go.Ab
set_option linter.unusedVariables false
set_option linter.unusedSimpArgs false
theorem leS_refl (a:Str):leS a a=true:=by unfold leS;simp
theorem lt_of_le {a b c:Str} (h:ltS b a=false) (k:ltS b c=true):ltS a c=true:=by
 rcases ltS_tri a b with h2|rfl|h2
 ·exact ltS_trans a h2 k
 ·exact k
 ·rw [h2] at h;cases h
theorem not_empty (w:Want):emptyM w=false↔(w.Hi=[]∨ltS w.Lo w.Hi=true):=by
 unfold emptyM
 by_cases h:w.Hi=[]
 ·simp [h]
 ·have h3:leS w.Hi w.Lo= !ltS w.Lo w.Hi:=by rw [Bool.eq_iff_iff,leS_iff];simp
  rw [h3];simp [h]
theorem inM_iff (w:Want) (k:Str):inM w k=true↔ltS k w.Lo=false∧(w.Hi=[]∨ltS k w.Hi=true):=by
 unfold inM;simp
theorem in_ne {w:Want} {k:Str} (h:inM w k=true):emptyM w=false:=by
 rw [inM_iff] at h
 rw [not_empty]
 rcases h.2 with h2|h2
 ·exact .inl h2
 ·exact .inr (lt_of_le h.1 h2)
theorem in_self (w:Want):inM w w.Lo= !emptyM w:=by
 rw [Bool.eq_iff_iff,inM_iff]
 simp only [Bool.not_eq_true']
 rw [not_empty,ltS_irr]
 simp
theorem rover_eq {a b:Want} (ha:wOk a) (hb:wOk b):ref09_Overlap a b=some (overM a b):=by
 have key:(inM a (if ltS a.Lo b.Lo then b.Lo else a.Lo)&&inM b (if ltS a.Lo b.Lo then b.Lo else a.Lo))=overM a b:=by
  unfold overM
  cases hl:ltS a.Lo b.Lo with
  |true=>
   simp only [if_true]
   rw [in_self b]
   have h2:inM b a.Lo=false:=by
    cases hi:inM b a.Lo with
    |false=>rfl
    |true=>rw [inM_iff] at hi;rw [hl] at hi;cases hi.1
   rw [h2]
   cases hi:inM a b.Lo with
   |false=>simp
   |true=>rw [in_ne hi];simp
  |false=>
   simp only [Bool.false_eq_true,if_false]
   rw [in_self a]
   cases hi:inM b a.Lo with
   |true=>rw [in_ne hi];simp
   |false=>
    cases hj:inM a b.Lo with
    |false=>simp
    |true=>
     rw [inM_iff] at hj
     rcases ltS_tri a.Lo b.Lo with h|h|h
     ·rw [hl] at h;cases h
     ·have:inM b a.Lo= !emptyM b:=by rw [h,in_self]
      rw [hi] at this
      cases he:emptyM b with
      |true=>simp
      |false=>rw [he] at this;cases this
     ·rw [h] at hj;cases hj.1
 unfold ref09_Overlap
 have hlen:(if ltS a.Lo b.Lo=true then b.Lo else a.Lo).length≤1099511627776:=by split;exact hb.1;exact ha.1
 rw [rless_eq ha.1]
 simp only [Option.bind_some]
 rw [rin_eq ha hlen,rin_eq hb hlen]
 simp only [Option.bind_some]
 rw [←key]
 cases inM a (if ltS a.Lo b.Lo=true then b.Lo else a.Lo)<;>simp
theorem rclash_eq {a b:Want} (ha:wOk a) (hb:wOk b):ref09_Clash a b=some (clashM a b):=by
 unfold ref09_Clash clashM
 rw [rover_eq ha hb]
 cases overM a b<;>by_cases h1:a.Mode=2<;>by_cases h2:b.Mode=2<;>simp [h1,h2]
theorem over_comm (a b:Want):overM a b=overM b a:=by
 unfold overM
 cases emptyM a<;>cases emptyM b<;>cases inM a b.Lo<;>cases inM b a.Lo<;>rfl
theorem clash_comm (a b:Want):clashM a b=clashM b a:=by
 unfold clashM
 rw [over_comm a b,Bool.or_comm (decide (a.Mode=2))]
def covM (a b:Want):Bool:=mayM2 b&& !(decide (a.Mode≠2)&&decide (b.Mode=2))&&(leS a.Lo b.Lo&&(decide (a.Hi=[])||(decide (b.Hi≠[])&&leS b.Hi a.Hi)))
theorem cov_eq (a b:Want):span_Covers a b=some (covM a b):=by
 have hs:a=b→(leS a.Lo b.Lo&&(decide (a.Hi=[])||(decide (b.Hi≠[])&&leS b.Hi a.Hi)))=true:=by
  rintro rfl
  rw [leS_refl,leS_refl]
  by_cases h:a.Hi=[]<;>simp [h]
 unfold span_Covers covM
 rw [smay_eq]
 simp only [Option.bind_some]
 cases hm:mayM2 b with
 |false=>rfl
 |true=>
  rw [if_neg (by simp)]
  by_cases h1:a.Mode≠2∧b.Mode=2
  ·rw [if_pos (by simpa using h1)];simp [h1]
  ·rw [if_neg (by simpa using h1)]
   have h1':(decide (a.Mode≠2)&&decide (b.Mode=2))=false:=by
    rw [Bool.eq_false_iff];simpa using h1
   rw [h1']
   by_cases he:a=b
   ·rw [if_pos (by simpa using he),hs he];rfl
   ·rw [if_neg (by simpa using he)]
    simp only [Option.bind_some]
    change (if leS a.Lo b.Lo=true then _ else _)=_
    cases leS a.Lo b.Lo with
    |false=>simp
    |true=>
     rw [if_pos rfl]
     by_cases h:a.Hi=[]
     ·simp [h]
     ·by_cases h2:b.Hi=[]
      ·simp [h,h2]
      ·rw [if_neg (by simpa using h),if_pos (by simpa using h2)]
       change some (leS b.Hi a.Hi)=_
       simp [h,h2]
end Go.Ab
namespace Go.Ab
set_option linter.unusedVariables false
set_option linter.unusedSimpArgs false
theorem fold_loop {α σ ρ τ:Type} (l:List α) (st:Nat→σ→τ) (step:τ→Option (τ⊕ρ)) (f:σ→α→σ) (fin:σ→ρ) (Inv:Nat→σ→Prop)
 (hstep: ∀k x s,l[k]? =some x→Inv k s→step (st k s)=some (.inl (st (k+1) (f s x)))∧Inv (k+1) (f s x)) (hend: ∀s,Inv l.length s→step (st l.length s)=some (.inr (fin s))) (s:σ) (h0:Inv 0 s):
 loop step (st 0 s)=some (fin (l.foldl f s))∧Inv l.length (l.foldl f s):=by
 have key: ∀(m k:Nat) (s:σ),k+m=l.length→Inv k s→loop step (st k s)=some (fin ((l.drop k).foldl f s))∧Inv l.length ((l.drop k).foldl f s):=by
  intro m
  induction m with
  |zero=>
   intro k s hk hi
   have:k=l.length:=by omega
   subst this
   rw [List.drop_length,List.foldl_nil]
   exact ⟨aF (hend s hi),hi⟩
  |succ m ih=>
   intro k s hk hi
   have hlt:k<l.length:=by omega
   obtain ⟨h1,h2⟩:=hstep k _ s (List.getElem?_eq_getElem hlt) hi
   rw [bz h1,List.drop_eq_getElem_cons hlt,List.foldl_cons]
   exact ih (k+1) _ (by omega) h2
 have:=key l.length 0 s (by omega) h0
 rwa [List.drop_zero] at this
theorem find_loop {α ρ:Type} (l:List α) (q:α→Bool) (g:Nat→ρ) (e:ρ) (step:Int→Option (Int⊕ρ)) (hl:l.length≤4398046511104)
 (hstep: ∀(k:Nat) x,l[k]? =some x→step k=if q x=true then some (.inr (g k)) else some (.inl ((k+1:Nat):Int))) (hend:step l.length=some (.inr e)):
 (∃k,k<l.length∧loop step 0=some (g k)∧l.any q=true)∨(loop step 0=some e∧l.any q=false):=by
 have key: ∀(m k:Nat),k+m=l.length→(∃j,j<l.length∧loop step (k:Int)=some (g j)∧(l.drop k).any q=true)∨(loop step (k:Int)=some e∧(l.drop k).any q=false):=by
  intro m
  induction m with
  |zero=>
   intro k hk
   have:k=l.length:=by omega
   subst this
   rw [List.drop_length]
   exact .inr ⟨aF hend,rfl⟩
  |succ m ih=>
   intro k hk
   have hlt:k<l.length:=by omega
   have hs:=hstep k _ (List.getElem?_eq_getElem hlt)
   rw [List.drop_eq_getElem_cons hlt,List.any_cons]
   cases hq:q l[k] with
   |true=>
    rw [hq,if_pos rfl] at hs
    exact .inl ⟨k,hlt,aF hs,rfl⟩
   |false=>
    rw [hq,if_neg (by simp)] at hs
    rw [bz hs]
    simp only [Bool.false_or]
    exact ih (k+1) (by omega)
 have:=key l.length 0 (by omega)
 rwa [List.drop_zero] at this
theorem zip_any {α:Type} [DecidableEq α]: ∀(a b:List α),a.length=b.length→((a.zip b).any (fun p=> !decide (p.1=p.2))= !decide (a=b))
 |[],[],_=>rfl
 |x::r,y::s,h=>by
  rw [List.zip_cons_cons,List.any_cons,zip_any r s (by simpa using h)]
  by_cases h1:x=y<;>by_cases h2:r=s<;>simp [h1,h2]
 |[],y::s,h=>by simp at h
 |x::r,[],h=>by simp at h
theorem same_rows {α:Type} [DecidableEq α] (a b:List α) (hl:a.length=b.length) (hm:a.length≤4398046511104) (step:Int→Option (Int⊕(Unit⊕Unit)))
 (hstep: ∀(k:Nat) x y,a[k]? =some x→b[k]? =some y→step k=if x=y then some (.inl ((k+1:Nat):Int)) else some (.inr (.inl ()))) (hend:step a.length=some (.inr (.inr ()))):
 loop step 0=some (if a=b then .inr () else .inl ()):=by
 have hz:(a.zip b).length=a.length:=by rw [List.length_zip];omega
 rcases find_loop (a.zip b) (fun p=> !decide (p.1=p.2)) (fun _=>(.inl ():Unit⊕Unit)) (.inr ()) step (by omega) (fun k x hk=>by
  rw [List.getElem?_zip_eq_some] at hk
  rw [hstep k _ _ hk.1 hk.2]
  by_cases h:x.1=x.2<;>simp [h]) (by rw [hz];exact hend) with ⟨k,_,h1,h2⟩|⟨h1,h2⟩
 ·rw [zip_any a b hl] at h2
  rw [h1,if_neg (by simpa using h2)]
 ·rw [zip_any a b hl] at h2
  rw [h1,if_pos (by simpa using h2)]
theorem find_first {α ρ:Type} (l:List α) (q:α→Bool) (g:Nat→ρ) (e:ρ) (step:Int→Option (Int⊕ρ))
 (hstep: ∀(k:Nat) x,l[k]? =some x→step k=if q x=true then some (.inr (g k)) else some (.inl ((k+1:Nat):Int))) (hend:step l.length=some (.inr e)):
 (∃k x,l[k]? =some x∧loop step 0=some (g k)∧q x=true∧ ∀y∈l.take k,q y=false)∨(loop step 0=some e∧ ∀y∈l,q y=false):=by
 have key: ∀(m k:Nat),k+m=l.length→(∀y∈l.take k,q y=false)→(∃j x,l[j]? =some x∧loop step (k:Int)=some (g j)∧q x=true∧ ∀y∈l.take j,q y=false)∨(loop step (k:Int)=some e∧ ∀y∈l,q y=false):=by
  intro m
  induction m with
  |zero=>
   intro k hk hy
   have:k=l.length:=by omega
   subst this
   rw [List.take_length] at hy
   exact .inr ⟨aF hend,hy⟩
  |succ m ih=>
   intro k hk hy
   have hlt:k<l.length:=by omega
   have hg:=List.getElem?_eq_getElem hlt
   have hs:=hstep k _ hg
   cases hq:q l[k] with
   |true=>
    rw [hq,if_pos rfl] at hs
    exact .inl ⟨k,_,hg,aF hs,hq,hy⟩
   |false=>
    rw [hq,if_neg (by simp)] at hs
    rw [bz hs]
    refine ih (k+1) (by omega) (fun y h=> ?_)
    rw [List.take_succ_eq_append_getElem hlt] at h
    rcases List.mem_append.1 h with h|h
    ·exact hy y h
    ·simp at h;subst h;exact hq
 exact key l.length 0 (by omega) (by simp)
theorem del_loop {α:Type} (l:List α) (q:α→Bool) (step:(Int×Int×List α)→Option ((Int×Int×List α)⊕(Int×List α)))
 (hstep: ∀(i j:Nat) (a:List α) x,i<j→a.length=l.length→a[j]? =some x→step ((i:Int),(j:Int),a)=if q x=true then some (.inl ((i:Int),((j+1:Nat):Int),a)) else some (.inl (((i+1:Nat):Int),((j+1:Nat):Int),a.set i x)))
 (hend: ∀(i:Int) (a:List α),a.length=l.length→step (i,(l.length:Int),a)=some (.inr (i,a))):
 ∀(m i j:Nat) (a:List α),j+m=l.length→i<j→a.length=l.length→a.drop j=l.drop j→a.take i=(l.take j).filter (fun x=> !q x)→
  ∃(i2:Nat) (a2:List α),loop step ((i:Int),(j:Int),a)=some ((i2:Int),a2)∧a2.length=l.length∧i2≤l.length∧a2.take i2=l.filter (fun x=> !q x):=by
 intro m
 induction m with
 |zero=>
  intro i j a hj hij ha hd ht
  have:j=l.length:=by omega
  subst this
  rw [List.take_length] at ht
  exact ⟨i,a,aF (hend _ a ha),ha,by omega,ht⟩
 |succ m ih=>
  intro i j a hj hij ha hd ht
  have hlt:j<l.length:=by omega
  have hx:a[j]? =some l[j]:=by
   have h1:=congrArg (fun x=>x[0]?) hd
   simp only [List.getElem?_drop,Nat.add_zero] at h1
   rw [h1,List.getElem?_eq_getElem hlt]
  have hs:=hstep i j a _ hij ha hx
  have hd2:a.drop (j+1)=l.drop (j+1):=by
   have:=congrArg (List.drop 1) hd
   rwa [List.drop_drop,List.drop_drop] at this
  have hf:(l.take (j+1)).filter (fun x=> !q x)=(l.take j).filter (fun x=> !q x)++(if q l[j]=true then [] else [l[j]]):=by
   rw [List.take_succ_eq_append_getElem hlt,List.filter_append]
   by_cases hql:q l[j]=true<;>simp [List.filter_cons,hql]
  cases hq:q l[j] with
  |true=>
   rw [hq,if_pos rfl] at hs
   rw [bz hs]
   refine ih i (j+1) a (by omega) (by omega) ha hd2 ?_
   rw [hf,hq,if_pos rfl,List.append_nil];exact ht
  |false=>
   rw [hq,if_neg (by simp)] at hs
   rw [bz hs]
   refine ih (i+1) (j+1) (a.set i l[j]) (by omega) (by omega) (by rw [List.length_set];exact ha) ?_ ?_
   ·rw [List.drop_set_of_lt (by omega)];exact hd2
   ·rw [hf,hq,if_neg (by simp),←ht]
    rw [List.take_succ_eq_append_getElem (by rw [List.length_set];omega)]
    simp
    apply List.ext_getElem?
    intro n
    rw [List.getElem?_take,List.getElem?_take]
    split
    ·rw [List.getElem?_set_ne (by omega)]
    ·rfl
theorem del_end {α:Type} (a x y:List α) (i:Nat) (h:i≤a.length):List.drop 0 (List.take i (a.take i++x++y))=a.take i:=by
 rw [List.drop_zero,List.append_assoc,List.take_append_of_le_length (by rw [List.length_take];omega),List.take_take,Nat.min_self]
theorem invl_loop {α σ ρ τ:Type} (l:List α) (st:Nat→σ→τ) (step:τ→Option (τ⊕ρ)) (fin:σ→ρ) (P:Nat→σ→Prop)
 (hstep: ∀k x s,l[k]? =some x→P k s→ ∃s',step (st k s)=some (.inl (st (k+1) s'))∧P (k+1) s')
 (hend: ∀s,P l.length s→step (st l.length s)=some (.inr (fin s))) (s:σ) (h0:P 0 s):
 ∃s',loop step (st 0 s)=some (fin s')∧P l.length s':=by
 have key: ∀(m k:Nat) (s:σ),k+m=l.length→P k s→ ∃s',loop step (st k s)=some (fin s')∧P l.length s':=by
  intro m
  induction m with
  |zero=>
   intro k s hk hi
   have:k=l.length:=by omega
   subst this
   exact ⟨s,aF (hend s hi),hi⟩
  |succ m ih=>
   intro k s hk hi
   have hlt:k<l.length:=by omega
   obtain ⟨s',h1,h2⟩:=hstep k _ s (List.getElem?_eq_getElem hlt) hi
   rw [bz h1]
   exact ih (k+1) s' (by omega) h2
 exact key l.length 0 s (by omega) h0
theorem all_loop {ρ:Type} (n:Nat) (e:ρ) (step:Int→Option (Int⊕ρ)) (hstep: ∀k:Nat,k<n→step k=some (.inl ((k+1:Nat):Int))) (hend:step n=some (.inr e)):loop step 0=some e:=by
 have key: ∀(m k:Nat),k+m=n→loop step (k:Int)=some e:=by
  intro m
  induction m with
  |zero=>intro k hk;have:k=n:=by omega
         subst this;exact aF hend
  |succ m ih=>intro k hk;rw [bz (hstep k (by omega))];exact ih (k+1) (by omega)
 exact key n 0 (by omega)
end Go.Ab
namespace Go.Ab
set_option linter.unusedVariables false
set_option linter.unusedSimpArgs false
structure LOk (l:Locks):Prop where
 heldL:l.Held.length≤2000000
 queL:l.Queue.length≤2000000
 held: ∀h∈l.Held,In64 h.Txn∧wOk h.W
 que: ∀c∈l.Queue,In64 c.Txn∧wOk c.W
def addB (txn:Int) (w:Want) (ks:List Int) (t:Int) (v:Want):List Int:=if t≠txn∧clashM v w=true then insI ks t else ks
def heldB (txn:Int) (w:Want) (h:List Hold) (ks:List Int):List Int:=h.foldl (fun ks x=>addB txn w ks x.Txn x.W) ks
def queB (txn:Int) (w:Want) (q:List Claim) (ks:List Int):List Int:=q.foldl (fun ks x=>addB txn w ks x.Txn x.W) ks
def blockS (l:Locks) (txn:Int) (w:Want) (n:Nat):List Int:=queB txn w (l.Queue.take n) (heldB txn w l.Held [])
def dv (l:Locks) (txn:Int) (w:Want) (n:Nat):List Int:=(blockS l txn w n).mergeSort leI
theorem addB_len (txn:Int) (w:Want) (ks:List Int) (t:Int) (v:Want):(addB txn w ks t v).length≤ks.length+1:=by
 unfold addB;split
 ·exact insI_len ks t
 ·omega
theorem addB_mem (txn:Int) (w:Want) (ks:List Int) (t:Int) (v:Want) (x:Int):x∈addB txn w ks t v↔x∈ks∨(x=t∧t≠txn∧clashM v w=true):=by
 unfold addB;split
 ·rename_i h;rw [insI_mem];simp [h,or_comm]
 ·rename_i h
  constructor
  ·exact .inl
  ·rintro (h1|⟨_,h1⟩)
   ·exact h1
   ·exact absurd h1 h
theorem blockers_eq {l:Locks} (hl:LOk l) (txn:Int) (w:Want) (n:Int):lock_Blockers l txn w n=some (dv l txn w n.toNat):=by
 have h1:=fold_loop (ρ:=List Int) l.Held (fun k (ks:List Int)=>((k:Int),ks)) (fun (s282:Int×(List Int))=>lock_Blockers_l2 l txn w s282.1 s282.2) (fun ks x=>addB txn w ks x.Txn x.W) (fun ks=>ks) (fun k ks=>ks.length≤k)
  (fun k x ks hk hi=>by
    have hlt:=(List.getElem?_eq_some_iff.1 hk).1
    have hx:=(List.getElem?_eq_some_iff.1 hk).2
    obtain ⟨ht,_⟩:=hl.held x (List.mem_of_getElem? hk)
    have hh:=hl.heldL
    refine ⟨?_,Nat.le_trans (addB_len ..) (by omega)⟩
    simp only
    unfold lock_Blockers_l2 addB
    rw [if_pos (by simpa using hlt),aP hlt,hx]
    simp only [Option.bind_some]
    rw [clash_eq,IntWalk.i64_in _ ⟨by omega,by omega⟩]
    by_cases h1:x.Txn=txn
    ·simp [h1]
    ·by_cases h2:clashM x.W w=true
     ·rw [if_pos (by simp [h1]),if_pos ⟨h1,h2⟩]
      simp only [Option.bind_some]
      rw [if_pos h2,ah ⟨ht,by omega⟩]
      rfl
     ·rw [if_pos (by simp [h1]),if_neg (fun h=>h2 h.2)]
      simp only [Option.bind_some]
      rw [if_neg h2]
      rfl)
  (fun ks _=>by
    simp only
    unfold lock_Blockers_l2
    rw [if_neg (by simp)]) [] (by simp)
 have hh:=hl.heldL
 have hq:=hl.queL
 have hn:(if (l.Queue.length:Int)<(if n<0 then 0 else n) then (l.Queue.length:Int) else (if n<0 then 0 else n))=((min n.toNat l.Queue.length:Nat):Int):=by split<;>split<;>omega
 have hcut:cut l.Queue 0 (if (l.Queue.length:Int)<(if n<0 then 0 else n) then (l.Queue.length:Int) else (if n<0 then 0 else n))=l.Queue.take n.toNat:=by
  rw [hn];unfold cut;simp [List.take_eq_take_iff]
 have h2:=fold_loop (ρ:=List Int) (l.Queue.take n.toNat) (fun k (ks:List Int)=>((k:Int),ks)) (fun (s622:Int×(List Int))=>lock_Blockers_l4 l txn w n s622.1 s622.2) (fun ks x=>addB txn w ks x.Txn x.W) (fun ks=>ks) (fun k ks=>ks.length≤2000000+k)
  (fun k x ks hk hi=>by
    have hlt:=(List.getElem?_eq_some_iff.1 hk).1
    have hx:=(List.getElem?_eq_some_iff.1 hk).2
    obtain ⟨ht,_⟩:=hl.que x (List.mem_of_mem_take (List.mem_of_getElem? hk))
    have hlt2:k<l.Queue.length:=by rw [List.length_take] at hlt;omega
    refine ⟨?_,Nat.le_trans (addB_len ..) (by omega)⟩
    simp only
    unfold lock_Blockers_l4 addB
    rw [hcut,if_pos (by simpa using hlt),aP hlt,hx]
    simp only [Option.bind_some]
    rw [clash_eq,IntWalk.i64_in _ ⟨by omega,by omega⟩]
    by_cases h1:x.Txn=txn
    ·simp [h1]
    ·by_cases h2:clashM x.W w=true
     ·rw [if_pos (by simp [h1]),if_pos ⟨h1,h2⟩]
      simp only [Option.bind_some]
      rw [if_pos h2,ah ⟨ht,by omega⟩]
      rfl
     ·rw [if_pos (by simp [h1]),if_neg (fun h=>h2 h.2)]
      simp only [Option.bind_some]
      rw [if_neg h2]
      rfl)
  (fun ks _=>by
    simp only
    unfold lock_Blockers_l4
    rw [hcut,if_neg (by simp)]) (heldB txn w l.Held []) (by
     have h3:(heldB txn w l.Held []).length≤l.Held.length:=h1.2
     omega)
 have e1:loop (fun (s282:Int×(List Int))=>lock_Blockers_l2 l txn w s282.1 s282.2) ((0:Int),([]:List Int))=some (heldB txn w l.Held []):=h1.1
 have e2:loop (fun (s622:Int×(List Int))=>lock_Blockers_l4 l txn w n s622.1 s622.2) ((0:Int),heldB txn w l.Held [])=some (queB txn w (l.Queue.take n.toNat) (heldB txn w l.Held [])):=h2.1
 unfold lock_Blockers dv blockS
 rw [e1]
 simp only [Option.bind_some]
 rw [ah (by rw [hn];omega)]
 change ((loop (fun (s622:Int×(List Int))=>lock_Blockers_l4 l txn w n s622.1 s622.2) ((0:Int),heldB txn w l.Held [])).bind _)=_
 rw [e2]
 simp only [Option.bind_some]
 rw [ah (by
  have h4:(queB txn w (l.Queue.take n.toNat) (heldB txn w l.Held [])).length≤2000000+(l.Queue.take n.toNat).length:=h2.2
  have h3:(l.Queue.take n.toNat).length≤l.Queue.length:=by rw [List.length_take];omega
  omega)]
def putD:Bool→List Int→Int→List Int
 |d,[],n=>if d then [] else [n]
 |d,x::r,n=>if (!(d||decide (x=n))&&decide (x>n)) then n::x::putD true r n else x::putD (d||decide (x=n)) r n
def putM (l:List Int) (n:Int):List Int:=putD false l n
theorem putD_true (l:List Int) (n:Int):putD true l n=l:=by
 induction l with
 |nil=>rfl
 |cons x r ih=>unfold putD;simp [ih]
end Go.Ab
namespace Go.Ab
set_option linter.unusedVariables false
set_option linter.unusedSimpArgs false
def Srt (l:List Int):Prop:=l.Pairwise (fun a b=>a<b)
theorem putM_cons (x:Int) (r:List Int) (n:Int):putM (x::r) n=if x=n then x::r else if n<x then n::x::r else x::putM r n:=by
 unfold putM
 conv=>lhs;unfold putD
 by_cases h1:x=n
 ·simp [h1,putD_true]
 ·by_cases h2:n<x
  ·simp [h1,h2,putD_true]
  ·simp [h1,h2]
theorem putM_mem (l:List Int) (n x:Int):x∈putM l n↔x=n∨x∈l:=by
 induction l with
 |nil=>simp [putM,putD]
 |cons y r ih=>
  rw [putM_cons]
  split
  ·rename_i h;subst h;simp
  ·split
   ·simp
   ·simp only [List.mem_cons,ih]
    constructor
    ·rintro (h|h|h)<;>simp [h]
    ·rintro (h|h|h)<;>simp [h]
theorem putM_srt {l:List Int} (h:Srt l) (n:Int):Srt (putM l n):=by
 induction l with
 |nil=>simp [putM,putD,Srt]
 |cons y r ih=>
  have h1:=List.pairwise_cons.1 h
  rw [putM_cons]
  split
  ·exact h
  ·split
   ·rename_i h2 h3
    refine List.pairwise_cons.2 ⟨fun a ha=> ?_,h⟩
    rcases List.mem_cons.1 ha with rfl|ha
    ·exact h3
    ·have:=h1.1 a ha;omega
   ·rename_i h2 h3
    refine List.pairwise_cons.2 ⟨fun a ha=> ?_,ih h1.2⟩
    rcases (putM_mem r n a).1 ha with rfl|ha
    ·omega
    ·exact h1.1 a ha
theorem srt_nodup {l:List Int} (h:Srt l):l.Nodup:=h.imp fun h=>by omega
theorem srt_unique {l ks:List Int} (h:Srt l) (hn:ks.Nodup) (hm: ∀x,x∈l↔x∈ks):l=ks.mergeSort leI:=by
 have hp:l.Perm ks:=(List.perm_ext_iff_of_nodup (srt_nodup h) hn).2 hm
 rw [←mergeSort_of_perm_i hp]
 exact (List.mergeSort_of_pairwise (h.imp fun h=>by simp [leI];omega)).symm
def addR (txn:Int) (w:Want) (ks:List Int) (t:Int) (v:Want):List Int:=if clashM v w=true∧t≠txn then putM ks t else ks
theorem blockS_mem (l:Locks) (txn:Int) (w:Want) (n:Nat) (x:Int):x∈dv l txn w n↔(∃h∈l.Held,h.Txn=x∧x≠txn∧clashM h.W w=true)∨(∃c∈l.Queue.take n,c.Txn=x∧x≠txn∧clashM c.W w=true):=by
 have gen: ∀ {α:Type} (T:α→Int) (W:α→Want) (l:List α) (b:List Int),x∈l.foldl (fun ks y=>addB txn w ks (T y) (W y)) b↔x∈b∨ ∃y∈l,T y=x∧x≠txn∧clashM (W y) w=true:=by
  intro α T W l
  induction l with
  |nil=>intro b;simp
  |cons y r ih=>
   intro b
   rw [List.foldl_cons,ih,addB_mem]
   constructor
   ·rintro ((h|⟨rfl,h2,h3⟩)|⟨z,hz,h⟩)
    ·exact .inl h
    ·exact .inr ⟨y,List.mem_cons_self ..,rfl,h2,h3⟩
    ·exact .inr ⟨z,List.mem_cons_of_mem _ hz,h⟩
   ·rintro (h|⟨z,hz,h1,h2,h3⟩)
    ·exact .inl (.inl h)
    ·rcases List.mem_cons.1 hz with rfl|hz
     ·exact .inl (.inr ⟨h1.symm,by rw [h1];exact h2,h3⟩)
     ·exact .inr ⟨z,hz,h1,h2,h3⟩
 unfold dv blockS queB heldB
 rw [List.mem_mergeSort,gen,gen]
 simp
end Go.Ab
namespace Go.Ab
set_option linter.unusedVariables false
set_option linter.unusedSimpArgs false
def da (l:Locks) (txn:Int):Bool:=l.Queue.any (fun c=>decide (c.Txn=txn))
theorem waits_eq {l:Locks} (hl:LOk l) (txn:Int):lock_Waits l txn=some (da l txn):=by
 have h2:=hl.queL
 unfold lock_Waits b6 cn da
 rcases find_loop l.Queue (fun c=>decide (c.Txn=txn)) (fun k=>(.inl (k:Int):Int⊕Unit)) (.inr ()) (fun (s169:Int)=>aT l.Queue txn s169) (by omega) (fun k x hk=>by
  have hlt:=(List.getElem?_eq_some_iff.1 hk).1
  unfold aT lock_Waits_1
  rw [if_pos (by simpa using hlt),aP hlt,(List.getElem?_eq_some_iff.1 hk).2,IntWalk.i64_in _ ⟨by omega,by omega⟩]
  by_cases h:x.Txn=txn<;>simp [h]) (by unfold aT;rw [if_neg (by simp)]) with ⟨k,_,h1,h2⟩|⟨h1,h2⟩
 ·rw [h1,h2];simp
 ·rw [h1,h2];simp
theorem rwaits_eq {l:Locks} (hl:LOk l) (txn:Int):ref10_Waits l txn=some (da l txn):=by
 have h2:=hl.queL
 unfold ref10_Waits da
 rcases find_loop l.Queue (fun c=>decide (c.Txn=txn)) (fun _=>(.inl ():Unit⊕Unit)) (.inr ()) (fun (s57:Int)=>ref10_Waits_l2 l txn s57) (by omega) (fun k x hk=>by
  have hlt:=(List.getElem?_eq_some_iff.1 hk).1
  unfold ref10_Waits_l2
  rw [if_pos (by simpa using hlt),aP hlt,(List.getElem?_eq_some_iff.1 hk).2,IntWalk.i64_in _ ⟨by omega,by omega⟩]
  by_cases h:x.Txn=txn<;>simp [h]) (by unfold ref10_Waits_l2;rw [if_neg (by simp)]) with ⟨k,_,h1,h2⟩|⟨h1,h2⟩
 ·rw [h1,h2];rfl
 ·rw [h1,h2];rfl
end Go.Ab
