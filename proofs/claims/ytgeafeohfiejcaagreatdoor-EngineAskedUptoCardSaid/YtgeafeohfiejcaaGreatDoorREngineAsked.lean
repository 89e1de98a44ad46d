/- Proved: the given statement on EngineAsked: who asks is answered once at most, else waits, and all others that are answered waited. Conditions: none beyond the statement's own. -/
import Derived.Test.YtgeafeohfiejcaaGreatDoorG8
import Derived.Test.YtgeafeohfiejcaaGreatDoorRows
import Derived.WalkKit
import Derived.ProofKit
import Derived.OpenShut
import Derived.JoinedCond
import Derived.Test.YtgeafeohfiejcaaGreatDoorTie
import Derived.Test.YtgeafeohfiejcaaGreatDoorCards
import Derived.LaidLaws
import Derived.LaidHandle
import Derived.RowKitTokens
import Derived.Deep.DeepHandedRow
import Derived.SevenTiedAt
namespace Go.Ab
set_option linter.unusedVariables false
set_option linter.unusedSimpArgs false
theorem law13_EngineAsked_true (w:EngineAskedIn) (o:okEngineAskedIn w) (hb:bkEngineAskedIn w≤1048576):law13_EngineAsked w=some true:=by
 unfold okEngineAskedIn at o
 have e0:bkEngineAskedIn w=bkEngineAskedIn w:=rfl
 conv at e0=>rhs;unfold bkEngineAskedIn bkOp_
 have hk:w.Op.Key.length≤2000000:=by omega
 have hlo:w.Op.Lo.length≤2000000:=by omega
 have hhi:w.Op.Hi.length≤2000000:=by omega
 obtain ⟨r,h1,h2⟩:=plays_inv (i64_of o.1) (acts13_of o.2.1 (by omega))
 unfold law13_EngineAsked
 rw [shown13,h1]
 simp only [Option.bind_some,Bool.not_true,Bool.false_or]
 cases hr:r.2 with
 |false=>rfl
 |true=>
  have h:=h2 hr
  have h6:=h.c.few
  simp only [Bool.not_true,Bool.false_eq_true,if_false]
  have a:=(askE_spec (by omega) h w.Txn hk hlo hhi).1
  have a6:=a.c.few
  have hl:=ask_len (n:=300) (by decide) h w.Txn hk hlo hhi
  rw [ask_eqE (by omega) h w.Txn hk hlo hhi]
  simp only [Option.bind_some]
  have hfold:=(fold_loop (ρ:=Unit⊕Int) (askE r.1 w.Txn w.Op).2 (fun k (s:Nat)=>((s:Int),(k:Int))) (fun (s1:Int×Int)=>law13_EngineAsked_l2 w r ((askE r.1 w.Txn w.Op).1,(askE r.1 w.Txn w.Op).2) s1.1 s1.2) (fun s d=>if d.Txn=w.Txn then s+1 else s) (fun s=>.inr (s:Int)) (fun k s=>s≤k)
   (fun j x s hj hi=>by
     have hlt:=(List.getElem?_eq_some_iff.1 hj).1
     have hm:=List.mem_of_getElem? hj
     refine ⟨?_,by split<;>omega⟩
     simp only
     unfold law13_EngineAsked_l2
     rw [if_pos (by simpa using hlt),aP hlt,(List.getElem?_eq_some_iff.1 hj).2]
     simp only [Option.bind_some]
     by_cases c:x.Txn=w.Txn
     ·rw [if_pos (by simpa using c),if_pos c]
      simp only [Option.bind_some]
      rw [IntWalk.i64_in _ ⟨by omega,by omega⟩,IntWalk.i64_in _ ⟨by omega,by omega⟩]
      rfl
     ·rw [if_neg (by simpa using c),if_neg c,find_eqE (by omega)]
      obtain ⟨t,ht,hti,htw⟩:=a.others x hm c
      have hf:=findT_of h.c.nd ht
      rw [hti] at hf
      unfold findT
      rw [hf]
      simp only [Option.bind_some,htw,Bool.not_true,Bool.or_self,Bool.false_eq_true,if_false]
      rw [IntWalk.i64_in _ ⟨by omega,by omega⟩]
      rfl)
   (fun s _=>by
     simp only
     unfold law13_EngineAsked_l2
     rw [if_neg (by simp)]) 0 (by omega)).1
  have hcnt: ∀(l:List Done) (s:Nat),l.foldl (fun s d=>if d.Txn=w.Txn then s+1 else s) s=s+cntD l w.Txn:=by
   intro l
   induction l with
   |nil=>intro s;simp [cntD]
   |cons d q ih=>
    intro s
    rw [List.foldl_cons,ih]
    unfold cntD
    rw [List.filter_cons]
    by_cases hd:d.Txn=w.Txn
    ·rw [if_pos hd,if_pos (by simpa using hd),List.length_cons];omega
    ·rw [if_neg hd,if_neg (by simpa using hd)]
  rw [hcnt,Nat.zero_add] at hfold
  simp only [Int.natCast_zero,Int.ofNat_eq_natCast] at hfold
  rw [hfold]
  simp only [Option.bind_some]
  rw [find_eqE (by omega)]
  simp only [Option.bind_some]
  rcases a.own with ⟨c1,c2⟩|⟨c1,u,hu,hui,huw⟩
  ·rw [c1,if_pos (by decide)]
   unfold findT
   cases hf:(askE r.1 w.Txn w.Op).1.T.find? (idB w.Txn) with
   |none=>rfl
   |some v=>
    obtain ⟨hv,hvi⟩:=findT_mem hf
    simp only [Bool.not_true,Bool.false_eq_true,if_false]
    rcases c2 with c2|c2
    ·rw [c2 v hv hvi];rfl
    ·cases hvw:v.Waits with
     |false=>rfl
     |true=>
      simp only [Bool.not_true,Bool.false_eq_true,if_false]
      rw [c2]
      rfl
  ·rw [c1,if_neg (by decide),if_pos (by decide)]
   have hf:=findT_of a.c.nd hu
   rw [hui] at hf
   unfold findT
   rw [hf]
   simp only [if_true]
   rw [huw]
end Go.Ab
namespace Go.Proofs.YtgeafeohfiejcaaGreatDoor.engineAsked
open Go.ChangeShapes Go.WideShapes Go.ChangeAt Go.RowKit Go.Ab
set_option linter.unusedVariables false
set_option linter.unusedSimpArgs false
set_option maxRecDepth 100000
theorem own:ownKnob Tryz.prog.godebug=none:=by kernel_rfl
mutual
theorem bulk_le {H:Type}: ∀d:DataW H,co d≤Rows.uptoBulk d
 | .lit l=>by cases l<;>simp [co,Rows.uptoBulk]
 | .nil=>by simp [co,Rows.uptoBulk]
 | .ptr d=>by have:=bulk_le d;simp [co,Rows.uptoBulk];omega
 | .slice e s=>by have:=bulkAll_le e;have:=bulkAll_le s;simp [co,Rows.uptoBulk];omega
 | .agg e=>by have:=bulkAll_le e;simp [co,Rows.uptoBulk];omega
 | .iface _ d=>by simp [co]
 | .map _=>by simp [co]
 | .held _=>by simp [co]
theorem bulkAll_le {H:Type}: ∀l:List (DataW H),bU l≤Rows.uptoBulkAll l
 |[]=>by simp [bU]
 |d::r=>by have:=bulk_le d;have:=bulkAll_le r;simp [bU,Rows.uptoBulkAll];omega
end
theorem et:Tryz.prog.globalNamed "errors.errorType" =some 0:=by kernel_rfl
theorem rt:(Tryz.prog.cutTypes.find? (·.1 == "internal/reflectlite.rtype")).map (·.2)=some 302:=by kernel_rfl
theorem oneRow:((List.range 371).filter fun t=>Tryz.prog.rowNamed t [101,114,114,111,114])=[157]:=by kernel_rfl
theorem size:Tryz.prog.types.size=371:=by kernel_rfl
theorem handle_of_laid {W:World} (h:laidMetH Tryz.prog Rows.engineAskedUptoRow.laid W):W.cell? ⟨0,0,none⟩=some (.iface 302 (.agg #[.pointer (some ⟨1,157,none⟩)])):=by
 have h':laidMet Tryz.prog [] W∧handlesMet Tryz.prog Rows.engineAskedUptoRow.laid W:=h
 obtain ⟨name,u,ty,e1,e2,e3,e4,e5⟩:=h'.2 _ (List.mem_singleton.2 rfl)
 have en:name=[101,114,114,111,114]:=(Option.some.inj e1).symm
 subst en
 obtain rfl:=Option.some.inj (rt.symm.trans e2)
 have hm:ty∈(List.range 371).filter fun t=>Tryz.prog.rowNamed t [101,114,114,111,114]:=List.mem_filter.2 ⟨List.mem_range.2 (by rw [←size];exact e3),e4⟩
 rw [oneRow] at hm
 obtain rfl:=List.mem_singleton.1 hm
 have hh:typeHandle Tryz.prog 157= .pointer (some ⟨1,157,none⟩):=by kernel_rfl
 rw [hh] at e5
 simpa using World.var?_cell et e5 0
noncomputable def laidWorld (os:Os):World:=
 let w0:=World.holding Tryz.prog os ⟨#[],#[],[]⟩
 {w0 with heap:=w0.heap.modify 0 fun
  | .cells _ t frozen=>.cells #[.iface 302 (.agg #[.pointer (some ⟨1,157,none⟩)])] t frozen
  |o=>o}
theorem laidWorld_met (os:Os) (args:Array Value):laidMetH Tryz.prog Rows.engineAskedUptoRow.laid ((laidWorld os).forCall (fun _ _=>0) ⟨#[],args,[]⟩).memory:=
 laidMetH_of_parts (laidMet_nil _ _) (by kernel_rfl)
theorem contract (H:Type) (enc:TypeId×Value→H) (W:World) (base:Nat) (args:Array Value) (ds gs:List (DataW H)) (before:List MemPlace)
 (hval: ∀(j:Nat) t v,Tryz.f9.params[j]? =some t→args[j]? =some v→Value.okWide Tryz.prog W .any base t v)
 (hW:DataW.Whole enc Tryz.prog Tryz.f9.params.toList Rows.engineAskedSpec.vars false W args.toList ds gs before) (hk:Rows.uptoSmall H (ds++gs)=true) (hGW:GW W):
 Calls Tryz.prog 9 args W fun e W'=> ∃v,e= .returned v∧Rows.engineAskedSpec.post enc Tryz.prog Tryz.f9 false true false false W args v W':=by
 have hW':=hW
 obtain ⟨p,q,hA0,hV,rfl,hfz,hnd⟩:=hW
 have hA:DataW.TrodAll enc Tryz.prog W 0 (fun _=>true) true Tryz.f9.params.toList args.toList ds p:=hA0
 rw [Tryz.params9] at hA hval
 obtain ⟨v0,vs0,d0,ds0,p0,q0,hargs,rfl,rfl,h0,r0⟩:=trodAll_cons hA
 obtain ⟨rfl,rfl,rfl⟩:=trodAll_nil r0
 obtain rfl:args= #[v0]:=by cases args;simp_all
 obtain ⟨rfl,rfl⟩:=trodVars_none hV
 obtain ⟨c0,k0,rfl,t0⟩:=arg_agg Tryz.underlying78 (hval 0 78 v0 rfl rfl) h0
 obtain ⟨x0,g0,o0,b0⟩:=rd78 t0
 have hb:=of_decide_eq_true hk
 simp only [List.cons_append,List.nil_append,List.append_nil,Rows.uptoBulkAll] at hb
 have l0:=bulk_le d0
 simp only [] at b0
 have hp:law13_EngineAsked x0=some true:=law13_EngineAsked_true x0 o0 (by omega)
 refine ((law13_EngineAsked_walk hp).run W (Old W) _ hGW (fun _ h=>h) (ci.cells (ci.cons g0.agg ci.none))).mono fun e W' h=> ?_
 obtain ⟨r,x,F',rfl,rfl,hr,_,_,_,T⟩:=h
 cases hr
 exact ⟨_,rfl,post_true hW' rfl rfl rfl Tryz.underlying4 (by kernel_rfl) (by rw [Tryz.params9];intro t ht;simp only [List.mem_cons,List.not_mem_nil,or_false] at ht;subst ht;exact ⟨by kernel_rfl,of_decide_eq_true (by kernel_rfl)⟩) (below_of_touch T)⟩
theorem lifted (os:Os) (started:os.Started) (H:Type) (enc:TypeId×Value→H) (F:Stop.Interp):
 ReturnsInHanded {} Tryz.checked os 9 .any ((Rows.OpenSpec.upto Rows.engineAskedSpec).preRow enc Tryz.prog Tryz.f9 Rows.engineAskedUptoRow.domain false Rows.engineAskedUptoRow.laid) (((Rows.OpenSpec.upto Rows.engineAskedSpec).at F).post enc Tryz.prog Tryz.f9 false true false false):=by
 refine returnsInHanded_of_row (C:=Tryz.checked) (s:=Rows.OpenSpec.upto Rows.engineAskedSpec) (laid:=Rows.engineAskedUptoRow.laid) own started (by kernel_rfl) Tryz.func9
  (witness_row_at (enc:=enc) (C:=Tryz.checked) (s:=Rows.OpenSpec.upto Rows.engineAskedSpec) (laid:=Rows.engineAskedUptoRow.laid) false (laidWorld os) #[.agg #[.int .i64 0,.slice none 0 0,.int .i64 0,.int .i64 0,.string ByteArray.empty,.string ByteArray.empty,.string ByteArray.empty,.string ByteArray.empty,.int .i64 0]] rfl (by kernel_rfl) (by kernel_rfl) (by kernel_rfl)
    (OpenSpec.preRow_of_cond 64 (x:=([.agg [.lit (.int .i64 0),.nil,.lit (.int .i64 0),.agg [.lit (.int .i64 0),.lit (.string []),.lit (.string []),.lit (.string []),.lit (.string []),.lit (.int .i64 0)]]],[],[])) (by kernel_rfl) rfl (fun k hk=>by obtain rfl:=Option.some.inj hk;kernel_rfl) (by kernel_rfl) (laidWorld_met os _))) ?_
 intro W base args ds gs before hval hW _ hk _ hL _ _
 exact contract H enc W base args ds gs before hval hW (hk _ rfl) (handle_of_laid hL)
theorem row:Rows.EngineAskedUptoSaid:=
 OpenClaim.holds_of_cond 9 Tryz.f9 rfl rfl rfl rfl rfl rfl rfl ⟨rfl,rfl,rfl,rfl,rfl⟩ rfl rfl rfl rfl rfl (by kernel_rfl) Tryz.func9 (by kernel_rfl)
  (of_decide_eq_true (by kernel_rfl)) (by unfold Func.isWrapper;first|(rw [if_pos (by decide+kernel)];kernel_rfl)|(rw [if_neg (by decide+kernel)];exact ⟨rfl,rfl⟩))
  (fun os started H enc _ F=>by rw [OpenClaim.pre_eq_preRow];exact lifted os started H enc F)
theorem proved:Rows.EngineAskedUptoCardSaid:=
 Claim7.holds_tied_plain_at .later [] [.handle] true (true,"51667b85680189edde9a9f823259c9ca54447a1139d2e9f386d3e274a90afc82") true row (fun _ h=>by cases h) (by kernel_rfl) (fun _ h=>by cases h) engineAskedUpto_row_tie rfl ⟨rfl,rfl⟩ (by kernel_rfl) rfl
  (fun f fn hf hfn=>by
    obtain rfl:f=9:=Option.some.inj ((show Tryz.prog.funcNamed "stanchion/stanchionlaw13.EngineAsked" =some 9 by kernel_rfl).symm.trans hf)|>.symm
    obtain rfl:fn=Tryz.f9:=(Option.some.inj (Tryz.func9.symm.trans hfn)).symm
    exact ⟨by kernel_rfl,fun j t ht=>by
     rw [Tryz.params9] at ht
     have hm:=Array.mem_of_getElem? ht
     simp only [List.mem_toArray,List.mem_cons,List.not_mem_nil,or_false] at hm
     subst hm
     ·exact (show Tryz.prog.wantsStandIn 78=false by kernel_rfl)⟩)
  (by kernel_rfl)
end Go.Proofs.YtgeafeohfiejcaaGreatDoor.engineAsked
