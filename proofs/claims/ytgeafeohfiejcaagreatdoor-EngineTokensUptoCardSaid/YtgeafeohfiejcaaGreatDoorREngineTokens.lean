/- Proved: the given statement on EngineTokens: living tokens are distinct and undecided, numbers rise, there are at most 64 decided tokens. Conditions: none beyond the statement's own. -/
import Derived.Test.YtgeafeohfiejcaaGreatDoorG8
import Derived.Test.YtgeafeohfiejcaaGreatDoorRows
import Derived.WalkKit
import Derived.ProofKit
import Derived.OpenShut
import Derived.JoinedCond
import Derived.Test.YtgeafeohfiejcaaGreatDoorTie
import Derived.Test.YtgeafeohfiejcaaGreatDoorCards
import Derived.LaidLaws
import Derived.LaidHandle
import Derived.RowKitTokens
import Derived.Deep.DeepHandedRow
import Derived.SevenTiedAt
namespace Go.Ab
set_option linter.unusedVariables false
set_option linter.unusedSimpArgs false
theorem law13_EngineTokens_true (room:Int) (l:List Act) (orr:okK .i64 room) (ol: ∀a∈l,okAct a) (b:1+(sumOf (fun v=>bkAct v) l+1)≤1048576):law13_EngineTokens room l=some true:=by
 obtain ⟨r,h1,h2⟩:=plays_inv (i64_of orr) (acts13_of ol (by omega))
 unfold law13_EngineTokens
 rw [shown13,h1]
 simp only [Option.bind_some,Bool.not_true,Bool.false_or]
 cases hr:r.2 with
 |false=>rfl
 |true=>
  have h:=h2 hr
  have h6:=h.c.few
  have ht:=h.s.toks
  simp only [Bool.not_true,Bool.false_eq_true,if_false]
  rw [all_loop r.1.T.length (.inr ()) (fun (s1:Int)=>dm r s1) (fun k hk=>by
   have hm:=List.getElem_mem hk
   unfold dm
   rw [if_pos (by simpa using hk),aP hk]
   simp only [Option.bind_some]
   rw [rtfind_eq (by omega)]
   simp only [Option.bind_some]
   rw [findM_has,(h.s.tok _ (List.mem_map_of_mem (f:=(·.Token)) hm)).1,if_neg (by have:=(h.c.pos _ hm).2;simp;omega),all_loop k (.inr ()) (fun (s1:Int)=>dl r (k:Int) r.1.T[k] s1) (fun j hj=>by
    have hjl:j<r.1.T.length:=by omega
    unfold dl
    rw [if_pos (by simpa using hj),aP hjl]
    simp only [Option.bind_some]
    have n1:r.1.T[j].Token≠r.1.T[k].Token:=by
     have:=List.pairwise_iff_getElem.1 h.s.nd j k (by rw [List.length_map];omega) (by rw [List.length_map];omega) hj
     simpa using this
    have n2:r.1.T[j].Id<r.1.T[k].Id:=by
     have:=List.pairwise_iff_getElem.1 h.c.ids j k (by rw [List.length_map];omega) (by rw [List.length_map];omega) hj
     simpa using this
    rw [if_neg (by simpa using n1)]
    simp only [Option.bind_some]
    rw [if_neg (by simp only [decide_eq_true_eq];omega),IntWalk.i64_in _ ⟨by omega,by omega⟩]
    rfl) (by
    unfold dl
    rw [if_neg (by simp)])]
   simp only [Option.bind_some]
   rw [IntWalk.i64_in _ ⟨by omega,by omega⟩]
   rfl) (by
   unfold dm
   rw [if_neg (by simp)])]
  simp only [Option.bind_some,Option.some.injEq,decide_eq_true_eq]
  omega
end Go.Ab
namespace Go.Proofs.YtgeafeohfiejcaaGreatDoor.engineTokens
open Go.ChangeShapes Go.WideShapes Go.ChangeAt Go.RowKit Go.Ab
set_option linter.unusedVariables false
set_option linter.unusedSimpArgs false
set_option maxRecDepth 100000
theorem own:ownKnob Tryz.prog.godebug=none:=by kernel_rfl
mutual
theorem bulk_le {H:Type}: ∀d:DataW H,co d≤Rows.uptoBulk d
 | .lit l=>by cases l<;>simp [co,Rows.uptoBulk]
 | .nil=>by simp [co,Rows.uptoBulk]
 | .ptr d=>by have:=bulk_le d;simp [co,Rows.uptoBulk];omega
 | .slice e s=>by have:=bulkAll_le e;have:=bulkAll_le s;simp [co,Rows.uptoBulk];omega
 | .agg e=>by have:=bulkAll_le e;simp [co,Rows.uptoBulk];omega
 | .iface _ d=>by simp [co]
 | .map _=>by simp [co]
 | .held _=>by simp [co]
theorem bulkAll_le {H:Type}: ∀l:List (DataW H),bU l≤Rows.uptoBulkAll l
 |[]=>by simp [bU]
 |d::r=>by have:=bulk_le d;have:=bulkAll_le r;simp [bU,Rows.uptoBulkAll];omega
end
theorem et:Tryz.prog.globalNamed "errors.errorType" =some 0:=by kernel_rfl
theorem rt:(Tryz.prog.cutTypes.find? (·.1 == "internal/reflectlite.rtype")).map (·.2)=some 302:=by kernel_rfl
theorem oneRow:((List.range 371).filter fun t=>Tryz.prog.rowNamed t [101,114,114,111,114])=[157]:=by kernel_rfl
theorem size:Tryz.prog.types.size=371:=by kernel_rfl
theorem handle_of_laid {W:World} (h:laidMetH Tryz.prog Rows.engineTokensUptoRow.laid W):W.cell? ⟨0,0,none⟩=some (.iface 302 (.agg #[.pointer (some ⟨1,157,none⟩)])):=by
 have h':laidMet Tryz.prog [] W∧handlesMet Tryz.prog Rows.engineTokensUptoRow.laid W:=h
 obtain ⟨name,u,ty,e1,e2,e3,e4,e5⟩:=h'.2 _ (List.mem_singleton.2 rfl)
 have en:name=[101,114,114,111,114]:=(Option.some.inj e1).symm
 subst en
 obtain rfl:=Option.some.inj (rt.symm.trans e2)
 have hm:ty∈(List.range 371).filter fun t=>Tryz.prog.rowNamed t [101,114,114,111,114]:=List.mem_filter.2 ⟨List.mem_range.2 (by rw [←size];exact e3),e4⟩
 rw [oneRow] at hm
 obtain rfl:=List.mem_singleton.1 hm
 have hh:typeHandle Tryz.prog 157= .pointer (some ⟨1,157,none⟩):=by kernel_rfl
 rw [hh] at e5
 simpa using World.var?_cell et e5 0
noncomputable def laidWorld (os:Os):World:=
 let w0:=World.holding Tryz.prog os ⟨#[],#[],[]⟩
 {w0 with heap:=w0.heap.modify 0 fun
  | .cells _ t frozen=>.cells #[.iface 302 (.agg #[.pointer (some ⟨1,157,none⟩)])] t frozen
  |o=>o}
theorem laidWorld_met (os:Os) (args:Array Value):laidMetH Tryz.prog Rows.engineTokensUptoRow.laid ((laidWorld os).forCall (fun _ _=>0) ⟨#[],args,[]⟩).memory:=
 laidMetH_of_parts (laidMet_nil _ _) (by kernel_rfl)
theorem contract (H:Type) (enc:TypeId×Value→H) (W:World) (base:Nat) (args:Array Value) (ds gs:List (DataW H)) (before:List MemPlace)
 (hval: ∀(j:Nat) t v,Tryz.f8.params[j]? =some t→args[j]? =some v→Value.okWide Tryz.prog W .any base t v)
 (hW:DataW.Whole enc Tryz.prog Tryz.f8.params.toList Rows.engineTokensSpec.vars false W args.toList ds gs before) (hk:Rows.uptoSmall H (ds++gs)=true) (hGW:GW W):
 Calls Tryz.prog 8 args W fun e W'=> ∃v,e= .returned v∧Rows.engineTokensSpec.post enc Tryz.prog Tryz.f8 false true false false W args v W':=by
 have hW':=hW
 obtain ⟨p,q,hA0,hV,rfl,hfz,hnd⟩:=hW
 have hA:DataW.TrodAll enc Tryz.prog W 0 (fun _=>true) true Tryz.f8.params.toList args.toList ds p:=hA0
 rw [Tryz.params8] at hA hval
 obtain ⟨v0,vs0,d0,ds0,p0,q0,hargs,rfl,rfl,h0,r0⟩:=trodAll_cons hA
 obtain ⟨v1,vs1,d1,ds1,p1,q1,rfl,rfl,rfl,h1,r1⟩:=trodAll_cons r0
 obtain ⟨rfl,rfl,rfl⟩:=trodAll_nil r1
 obtain rfl:args= #[v0,v1]:=by cases args;simp_all
 obtain ⟨rfl,rfl⟩:=trodVars_none hV
 obtain ⟨k0,t0⟩:=arg_int Tryz.underlying3 (hval 0 3 v0 rfl rfl) h0
 obtain ⟨x0,g0,o0,b0⟩:=rd3 t0
 obtain ⟨k1,t1⟩:=arg_slice Tryz.underlying22 (hval 1 22 v1 rfl rfl) h1
 obtain ⟨x1,g1,o1,b1⟩:=rd22 t1
 have hb:=of_decide_eq_true hk
 simp only [List.cons_append,List.nil_append,List.append_nil,Rows.uptoBulkAll] at hb
 have l0:=bulk_le d0
 have l1:=bulk_le d1
 simp only [] at b0 b1
 have hp:law13_EngineTokens x0 x1=some true:=law13_EngineTokens_true x0 x1 o0 o1 (by omega)
 refine ((law13_EngineTokens_walk hp).run W (Old W) _ hGW (fun _ h=>h) (ci.cells (ci.cons g0.fst (ci.cons g1.fst ci.none)))).mono fun e W' h=> ?_
 obtain ⟨r,x,F',rfl,rfl,hr,_,_,_,T⟩:=h
 cases hr
 exact ⟨_,rfl,post_true hW' rfl rfl rfl Tryz.underlying4 (by kernel_rfl) (by rw [Tryz.params8];intro t ht;simp only [List.mem_cons,List.not_mem_nil,or_false] at ht;rcases ht with rfl|rfl<;>exact ⟨by kernel_rfl,of_decide_eq_true (by kernel_rfl)⟩) (below_of_touch T)⟩
theorem lifted (os:Os) (started:os.Started) (H:Type) (enc:TypeId×Value→H) (F:Stop.Interp):
 ReturnsInHanded {} Tryz.checked os 8 .any ((Rows.OpenSpec.upto Rows.engineTokensSpec).preRow enc Tryz.prog Tryz.f8 Rows.engineTokensUptoRow.domain false Rows.engineTokensUptoRow.laid) (((Rows.OpenSpec.upto Rows.engineTokensSpec).at F).post enc Tryz.prog Tryz.f8 false true false false):=by
 refine returnsInHanded_of_row (C:=Tryz.checked) (s:=Rows.OpenSpec.upto Rows.engineTokensSpec) (laid:=Rows.engineTokensUptoRow.laid) own started (by kernel_rfl) Tryz.func8
  (witness_row_at (enc:=enc) (C:=Tryz.checked) (s:=Rows.OpenSpec.upto Rows.engineTokensSpec) (laid:=Rows.engineTokensUptoRow.laid) false (laidWorld os) #[.int .i64 0,.slice none 0 0] rfl (by kernel_rfl) (by kernel_rfl) (by kernel_rfl)
    (OpenSpec.preRow_of_cond 64 (x:=([.lit (.int .i64 0),.nil],[],[])) (by kernel_rfl) rfl (fun k hk=>by obtain rfl:=Option.some.inj hk;kernel_rfl) (by kernel_rfl) (laidWorld_met os _))) ?_
 intro W base args ds gs before hval hW _ hk _ hL _ _
 exact contract H enc W base args ds gs before hval hW (hk _ rfl) (handle_of_laid hL)
theorem row:Rows.EngineTokensUptoSaid:=
 OpenClaim.holds_of_cond 8 Tryz.f8 rfl rfl rfl rfl rfl rfl rfl ⟨rfl,rfl,rfl,rfl,rfl⟩ rfl rfl rfl rfl rfl (by kernel_rfl) Tryz.func8 (by kernel_rfl)
  (of_decide_eq_true (by kernel_rfl)) (by unfold Func.isWrapper;first|(rw [if_pos (by decide+kernel)];kernel_rfl)|(rw [if_neg (by decide+kernel)];exact ⟨rfl,rfl⟩))
  (fun os started H enc _ F=>by rw [OpenClaim.pre_eq_preRow];exact lifted os started H enc F)
theorem proved:Rows.EngineTokensUptoCardSaid:=
 Claim7.holds_tied_plain_at .later [] [.handle] true (true,"51667b85680189edde9a9f823259c9ca54447a1139d2e9f386d3e274a90afc82") true row (fun _ h=>by cases h) (by kernel_rfl) (fun _ h=>by cases h) engineTokensUpto_row_tie rfl ⟨rfl,rfl⟩ (by kernel_rfl) rfl
  (fun f fn hf hfn=>by
    obtain rfl:f=8:=Option.some.inj ((show Tryz.prog.funcNamed "stanchion/stanchionlaw13.EngineTokens" =some 8 by kernel_rfl).symm.trans hf)|>.symm
    obtain rfl:fn=Tryz.f8:=(Option.some.inj (Tryz.func8.symm.trans hfn)).symm
    exact ⟨by kernel_rfl,fun j t ht=>by
     rw [Tryz.params8] at ht
     have hm:=Array.mem_of_getElem? ht
     simp only [List.mem_toArray,List.mem_cons,List.not_mem_nil,or_false] at hm
     rcases hm with rfl|rfl
     ·exact (show Tryz.prog.wantsStandIn 3=false by kernel_rfl)
     ·exact (show Tryz.prog.wantsStandIn 22=false by kernel_rfl)⟩)
  (by kernel_rfl)
end Go.Proofs.YtgeafeohfiejcaaGreatDoor.engineTokens
