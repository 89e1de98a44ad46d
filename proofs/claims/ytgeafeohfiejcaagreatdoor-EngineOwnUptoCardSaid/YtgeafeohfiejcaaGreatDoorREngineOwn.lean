/- Proved: the given statement on EngineOwn: an ask changes no other transaction, but that one which waited may go on. Conditions: none beyond the statement's own. -/
import Derived.Test.YtgeafeohfiejcaaGreatDoorG8
import Derived.Test.YtgeafeohfiejcaaGreatDoorRows
import Derived.WalkKit
import Derived.ProofKit
import Derived.OpenShut
import Derived.JoinedCond
import Derived.Test.YtgeafeohfiejcaaGreatDoorTie
import Derived.Test.YtgeafeohfiejcaaGreatDoorCards
import Derived.LaidLaws
import Derived.LaidHandle
import Derived.RowKitTokens
import Derived.Deep.DeepHandedRow
import Derived.SevenTiedAt
namespace Go.Ab
set_option linter.unusedVariables false
set_option linter.unusedSimpArgs false
theorem rwrites_eq (a b:List Write) (ha:a.length≤4398046511104):ref05_Writes a b=some (decide (a=b)):=by
 unfold ref05_Writes
 by_cases hl:a.length=b.length
 ·rw [if_neg (by simp [hl]),same_rows a b hl (by omega) _ (fun k x y h1 h2=>by
   have hlt:=(List.getElem?_eq_some_iff.1 h1).1
   have hlt2:=(List.getElem?_eq_some_iff.1 h2).1
   unfold ref05_Writes_l2
   rw [if_pos (by simpa using hlt),aP hlt,aP hlt2,(List.getElem?_eq_some_iff.1 h1).2,(List.getElem?_eq_some_iff.1 h2).2,IntWalk.i64_in _ ⟨by omega,by omega⟩]
   by_cases h:x=y<;>simp [h]) (by unfold ref05_Writes_l2;rw [if_neg (by simp)])]
  by_cases h:a=b<;>simp [h]
 ·rw [if_pos (by simp;omega)]
  have:a≠b:=fun h=>hl (by rw [h])
  simp [this]
theorem law13_EngineOwn_true (w:EngineOwnIn) (o:okEngineOwnIn w) (hb:bkEngineOwnIn w≤1048576):law13_EngineOwn w=some true:=by
 unfold okEngineOwnIn at o
 have e0:bkEngineOwnIn w=bkEngineOwnIn w:=rfl
 conv at e0=>rhs;unfold bkEngineOwnIn bkOp_
 have hk:w.Op.Key.length≤2000000:=by omega
 have hlo:w.Op.Lo.length≤2000000:=by omega
 have hhi:w.Op.Hi.length≤2000000:=by omega
 obtain ⟨r,h1,h2⟩:=plays_inv (i64_of o.1) (acts13_of o.2.1 (by omega))
 unfold law13_EngineOwn
 rw [shown13,h1]
 simp only [Option.bind_some,Bool.not_true,Bool.false_or]
 cases hr:r.2 with
 |false=>rfl
 |true=>
  have h:=h2 hr
  have h6:=h.c.few
  simp only [Bool.not_true,Bool.false_or]
  by_cases hne:w.Txn=w.Other
  ·rw [if_pos (by simpa using hne)]
  have a:=(askE_spec (by omega) h w.Txn hk hlo hhi).1
  have a6:=a.c.few
  rw [if_neg (by simpa using hne),find_eqE (by omega),ask_eqE (by omega) h w.Txn hk hlo hhi]
  simp only [Option.bind_some]
  rw [find_eqE (by omega)]
  simp only [Option.bind_some]
  unfold findT
  cases hf:r.1.T.find? (idB w.Other) with
  |none=>
   have hno: ∀t∈r.1.T,t.Id≠w.Other:=fun t ht=>by simpa using List.find?_eq_none.1 hf t ht
   cases hg:(askE r.1 w.Txn w.Op).1.T.find? (idB w.Other) with
   |none=>rfl
   |some u=>
    obtain ⟨hu,hui⟩:=findT_mem hg
    obtain ⟨t,ht,hti,_⟩:=a.back u hu
    exact absurd (hti.trans hui) (hno t ht)
  |some t=>
   obtain ⟨ht,hti⟩:=findT_mem hf
   simp only [Bool.not_true,Bool.false_eq_true,if_false]
   have htne:t.Id≠w.Txn:=by rw [hti];exact fun e=>hne e.symm
   cases hg:(askE r.1 w.Txn w.Op).1.T.find? (idB w.Other) with
   |none=>
    simp only [Bool.not_false,if_true]
    cases hw:t.Waits with
    |true=>rfl
    |false=>
     have:=a.stay t ht htne hw
     exact absurd hti (by simpa using List.find?_eq_none.1 hg t this)
   |some u=>
    obtain ⟨hu,hui⟩:=findT_mem hg
    obtain ⟨t2,ht2,k1,k2,k3⟩:=a.back u hu
    have e2:t2=t:=ids_eq h.c.nd ht2 ht (by rw [k1,hui,hti])
    subst e2
    simp only [Bool.not_true,Bool.false_eq_true,if_false]
    rw [if_pos (by simp [k2])]
    cases hw:t2.Waits with
    |true=>rfl
    |false=>
     have e3:=k3 htne hw
     subst e3
     have hwl:=(h.c.wr _ ht).len
     simp only [Bool.false_eq_true,if_false]
     rw [rwrites_eq _ _ (by omega)]
     simp [hw]
end Go.Ab
namespace Go.Proofs.YtgeafeohfiejcaaGreatDoor.engineOwn
open Go.ChangeShapes Go.WideShapes Go.ChangeAt Go.RowKit Go.Ab
set_option linter.unusedVariables false
set_option linter.unusedSimpArgs false
set_option maxRecDepth 100000
theorem own:ownKnob Tryz.prog.godebug=none:=by kernel_rfl
mutual
theorem bulk_le {H:Type}: ∀d:DataW H,co d≤Rows.uptoBulk d
 | .lit l=>by cases l<;>simp [co,Rows.uptoBulk]
 | .nil=>by simp [co,Rows.uptoBulk]
 | .ptr d=>by have:=bulk_le d;simp [co,Rows.uptoBulk];omega
 | .slice e s=>by have:=bulkAll_le e;have:=bulkAll_le s;simp [co,Rows.uptoBulk];omega
 | .agg e=>by have:=bulkAll_le e;simp [co,Rows.uptoBulk];omega
 | .iface _ d=>by simp [co]
 | .map _=>by simp [co]
 | .held _=>by simp [co]
theorem bulkAll_le {H:Type}: ∀l:List (DataW H),bU l≤Rows.uptoBulkAll l
 |[]=>by simp [bU]
 |d::r=>by have:=bulk_le d;have:=bulkAll_le r;simp [bU,Rows.uptoBulkAll];omega
end
theorem et:Tryz.prog.globalNamed "errors.errorType" =some 0:=by kernel_rfl
theorem rt:(Tryz.prog.cutTypes.find? (·.1 == "internal/reflectlite.rtype")).map (·.2)=some 302:=by kernel_rfl
theorem oneRow:((List.range 371).filter fun t=>Tryz.prog.rowNamed t [101,114,114,111,114])=[157]:=by kernel_rfl
theorem size:Tryz.prog.types.size=371:=by kernel_rfl
theorem handle_of_laid {W:World} (h:laidMetH Tryz.prog Rows.engineOwnUptoRow.laid W):W.cell? ⟨0,0,none⟩=some (.iface 302 (.agg #[.pointer (some ⟨1,157,none⟩)])):=by
 have h':laidMet Tryz.prog [] W∧handlesMet Tryz.prog Rows.engineOwnUptoRow.laid W:=h
 obtain ⟨name,u,ty,e1,e2,e3,e4,e5⟩:=h'.2 _ (List.mem_singleton.2 rfl)
 have en:name=[101,114,114,111,114]:=(Option.some.inj e1).symm
 subst en
 obtain rfl:=Option.some.inj (rt.symm.trans e2)
 have hm:ty∈(List.range 371).filter fun t=>Tryz.prog.rowNamed t [101,114,114,111,114]:=List.mem_filter.2 ⟨List.mem_range.2 (by rw [←size];exact e3),e4⟩
 rw [oneRow] at hm
 obtain rfl:=List.mem_singleton.1 hm
 have hh:typeHandle Tryz.prog 157= .pointer (some ⟨1,157,none⟩):=by kernel_rfl
 rw [hh] at e5
 simpa using World.var?_cell et e5 0
noncomputable def laidWorld (os:Os):World:=
 let w0:=World.holding Tryz.prog os ⟨#[],#[],[]⟩
 {w0 with heap:=w0.heap.modify 0 fun
  | .cells _ t frozen=>.cells #[.iface 302 (.agg #[.pointer (some ⟨1,157,none⟩)])] t frozen
  |o=>o}
theorem laidWorld_met (os:Os) (args:Array Value):laidMetH Tryz.prog Rows.engineOwnUptoRow.laid ((laidWorld os).forCall (fun _ _=>0) ⟨#[],args,[]⟩).memory:=
 laidMetH_of_parts (laidMet_nil _ _) (by kernel_rfl)
theorem contract (H:Type) (enc:TypeId×Value→H) (W:World) (base:Nat) (args:Array Value) (ds gs:List (DataW H)) (before:List MemPlace)
 (hval: ∀(j:Nat) t v,Tryz.f7.params[j]? =some t→args[j]? =some v→Value.okWide Tryz.prog W .any base t v)
 (hW:DataW.Whole enc Tryz.prog Tryz.f7.params.toList Rows.engineOwnSpec.vars false W args.toList ds gs before) (hk:Rows.uptoSmall H (ds++gs)=true) (hGW:GW W):
 Calls Tryz.prog 7 args W fun e W'=> ∃v,e= .returned v∧Rows.engineOwnSpec.post enc Tryz.prog Tryz.f7 false true false false W args v W':=by
 have hW':=hW
 obtain ⟨p,q,hA0,hV,rfl,hfz,hnd⟩:=hW
 have hA:DataW.TrodAll enc Tryz.prog W 0 (fun _=>true) true Tryz.f7.params.toList args.toList ds p:=hA0
 rw [Tryz.params7] at hA hval
 obtain ⟨v0,vs0,d0,ds0,p0,q0,hargs,rfl,rfl,h0,r0⟩:=trodAll_cons hA
 obtain ⟨rfl,rfl,rfl⟩:=trodAll_nil r0
 obtain rfl:args= #[v0]:=by cases args;simp_all
 obtain ⟨rfl,rfl⟩:=trodVars_none hV
 obtain ⟨c0,k0,rfl,t0⟩:=arg_agg Tryz.underlying74 (hval 0 74 v0 rfl rfl) h0
 obtain ⟨x0,g0,o0,b0⟩:=rd74 t0
 have hb:=of_decide_eq_true hk
 simp only [List.cons_append,List.nil_append,List.append_nil,Rows.uptoBulkAll] at hb
 have l0:=bulk_le d0
 simp only [] at b0
 have hp:law13_EngineOwn x0=some true:=law13_EngineOwn_true x0 o0 (by omega)
 refine ((law13_EngineOwn_walk hp).run W (Old W) _ hGW (fun _ h=>h) (ci.cells (ci.cons g0.agg ci.none))).mono fun e W' h=> ?_
 obtain ⟨r,x,F',rfl,rfl,hr,_,_,_,T⟩:=h
 cases hr
 exact ⟨_,rfl,post_true hW' rfl rfl rfl Tryz.underlying4 (by kernel_rfl) (by rw [Tryz.params7];intro t ht;simp only [List.mem_cons,List.not_mem_nil,or_false] at ht;subst ht;exact ⟨by kernel_rfl,of_decide_eq_true (by kernel_rfl)⟩) (below_of_touch T)⟩
theorem lifted (os:Os) (started:os.Started) (H:Type) (enc:TypeId×Value→H) (F:Stop.Interp):
 ReturnsInHanded {} Tryz.checked os 7 .any ((Rows.OpenSpec.upto Rows.engineOwnSpec).preRow enc Tryz.prog Tryz.f7 Rows.engineOwnUptoRow.domain false Rows.engineOwnUptoRow.laid) (((Rows.OpenSpec.upto Rows.engineOwnSpec).at F).post enc Tryz.prog Tryz.f7 false true false false):=by
 refine returnsInHanded_of_row (C:=Tryz.checked) (s:=Rows.OpenSpec.upto Rows.engineOwnSpec) (laid:=Rows.engineOwnUptoRow.laid) own started (by kernel_rfl) Tryz.func7
  (witness_row_at (enc:=enc) (C:=Tryz.checked) (s:=Rows.OpenSpec.upto Rows.engineOwnSpec) (laid:=Rows.engineOwnUptoRow.laid) false (laidWorld os) #[.agg #[.int .i64 0,.slice none 0 0,.int .i64 0,.int .i64 0,.string ByteArray.empty,.string ByteArray.empty,.string ByteArray.empty,.string ByteArray.empty,.int .i64 0,.int .i64 0]] rfl (by kernel_rfl) (by kernel_rfl) (by kernel_rfl)
    (OpenSpec.preRow_of_cond 64 (x:=([.agg [.lit (.int .i64 0),.nil,.lit (.int .i64 0),.agg [.lit (.int .i64 0),.lit (.string []),.lit (.string []),.lit (.string []),.lit (.string []),.lit (.int .i64 0)],.lit (.int .i64 0)]],[],[])) (by kernel_rfl) rfl (fun k hk=>by obtain rfl:=Option.some.inj hk;kernel_rfl) (by kernel_rfl) (laidWorld_met os _))) ?_
 intro W base args ds gs before hval hW _ hk _ hL _ _
 exact contract H enc W base args ds gs before hval hW (hk _ rfl) (handle_of_laid hL)
theorem row:Rows.EngineOwnUptoSaid:=
 OpenClaim.holds_of_cond 7 Tryz.f7 rfl rfl rfl rfl rfl rfl rfl ⟨rfl,rfl,rfl,rfl,rfl⟩ rfl rfl rfl rfl rfl (by kernel_rfl) Tryz.func7 (by kernel_rfl)
  (of_decide_eq_true (by kernel_rfl)) (by unfold Func.isWrapper;first|(rw [if_pos (by decide+kernel)];kernel_rfl)|(rw [if_neg (by decide+kernel)];exact ⟨rfl,rfl⟩))
  (fun os started H enc _ F=>by rw [OpenClaim.pre_eq_preRow];exact lifted os started H enc F)
theorem proved:Rows.EngineOwnUptoCardSaid:=
 Claim7.holds_tied_plain_at .later [] [.handle] true (true,"51667b85680189edde9a9f823259c9ca54447a1139d2e9f386d3e274a90afc82") true row (fun _ h=>by cases h) (by kernel_rfl) (fun _ h=>by cases h) engineOwnUpto_row_tie rfl ⟨rfl,rfl⟩ (by kernel_rfl) rfl
  (fun f fn hf hfn=>by
    obtain rfl:f=7:=Option.some.inj ((show Tryz.prog.funcNamed "stanchion/stanchionlaw13.EngineOwn" =some 7 by kernel_rfl).symm.trans hf)|>.symm
    obtain rfl:fn=Tryz.f7:=(Option.some.inj (Tryz.func7.symm.trans hfn)).symm
    exact ⟨by kernel_rfl,fun j t ht=>by
     rw [Tryz.params7] at ht
     have hm:=Array.mem_of_getElem? ht
     simp only [List.mem_toArray,List.mem_cons,List.not_mem_nil,or_false] at hm
     subst hm
     ·exact (show Tryz.prog.wantsStandIn 74=false by kernel_rfl)⟩)
  (by kernel_rfl)
end Go.Proofs.YtgeafeohfiejcaaGreatDoor.engineOwn
