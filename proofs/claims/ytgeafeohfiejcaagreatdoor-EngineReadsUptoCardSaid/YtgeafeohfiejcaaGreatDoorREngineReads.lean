/- Proved: the given statement on EngineReads: a Get that is answered at once is answered by what its transaction wrote last, else by what is committed. Conditions: none beyond the statement's own. -/
import Derived.Test.YtgeafeohfiejcaaGreatDoorG8
import Derived.Test.YtgeafeohfiejcaaGreatDoorRows
import Derived.WalkKit
import Derived.ProofKit
import Derived.OpenShut
import Derived.JoinedCond
import Derived.Test.YtgeafeohfiejcaaGreatDoorTie
import Derived.Test.YtgeafeohfiejcaaGreatDoorCards
import Derived.LaidLaws
import Derived.LaidHandle
import Derived.RowKitTokens
import Derived.Deep.DeepHandedRow
import Derived.SevenTiedAt
namespace Go.Ab
set_option linter.unusedVariables false
set_option linter.unusedSimpArgs false
theorem ends_out {n:Nat} (hn:n≤1000000) {s:World} (h:CInv n s.1) (id err:Int): ∃ds,(endsM s id err).2=s.2++⟨id,err,[],false,[],true⟩::ds:=by
 obtain ⟨ds,_,g2,_⟩:=goes_spec hn (s:=(s.1,s.2++[⟨id,err,[],false,[],true⟩])) h id
 exact ⟨ds,by unfold endsM;rw [g2];simp⟩
theorem rings_head {n:Nat} (hn:n≤1000000) (id:Int) (m:Nat) {e:Engine} (h:CInv n e):(ringsF m (e,[]) id).2=[]∨ ∃d r,(ringsF m (e,[]) id).2=d::r∧d.Err=13:=by
 cases m with
 |zero=>exact .inl rfl
 |succ m=>
  unfold ringsF
  split
  ·rename_i hv
   right
   obtain ⟨ds,e1⟩:=ends_out hn (s:=(e,[])) h (victM e.L id).1 13
   obtain ⟨a,r1,_⟩:=ends_spec hn (s:=(e,[])) h (ring_waits (vict_in hv)) 13
   obtain ⟨b,r2⟩:=rings_spec hn id m r1.c
   exact ⟨_,ds++b,by rw [r2.out,e1];rfl,rfl⟩
  ·exact .inl rfl
theorem reads_ask {n:Nat} (hn:n+1≤1000000) {e:Engine} (h:EInv n e) {t:Txn} (ht:t∈e.T) {key:Str} (hk:key.length≤2000000) {d:Done} (hd:(askE e t.Id ⟨1,key,[],[],[],0⟩).2=[d]) (he:d.Err=0):
 d=⟨t.Id,0,(getW t.Writes e.X.S.Data key).1,(getW t.Writes e.X.S.Data key).2,[],false⟩:=by
 unfold askE at hd
 rw [findT_of h.c.nd ht] at hd
 simp only at hd
 have said: ∀c:Int,[saidE t.Id c]=[d]→c=0:=fun c hc=>by
  have:saidE t.Id c=d:=by simpa using hc
  rw [←this] at he;exact he
 cases hw:t.Waits with
 |true=>rw [hw,if_pos rfl] at hd;exact absurd (said 9 hd) (by decide)
 |false=>
  rw [hw,if_neg (by decide)] at hd
  cases hm:mayO ⟨1,key,[],[],[],0⟩ with
  |false=>rw [hm,if_pos rfl] at hd;exact absurd (said 1 hd) (by decide)
  |true=>
   rw [hm,if_neg (by decide),if_neg (by decide)] at hd
   unfold locksM at hd
   simp only at hd
   by_cases c1:(askM e.L t.Id (wantM ⟨1,key,[],[],[],0⟩) (bT e.Now)).2=0
   ·rw [if_pos c1] at hd
    simp only [List.nil_append,List.cons.injEq,and_true] at hd
    rw [←hd]
    rfl
   ·rw [if_neg c1] at hd
    by_cases c2:(askM e.L t.Id (wantM ⟨1,key,[],[],[],0⟩) (bT e.Now)).2=12
    ·rw [if_pos c2] at hd
     have hL:=linv_ask (by omega) h.c.lock (h.id64 (by omega) ht) (want_ok (op:=⟨1,key,[],[],[],0⟩) hk (by simp) (by simp)) (bT e.Now)
     have h0:=askE_wait h.c ht hm hL c2
     unfold ringsM at hd
     rcases rings_head hn t.Id ((ringM (askM e.L t.Id (wantM ⟨1,key,[],[],[],0⟩) (bT e.Now)).1 t.Id).length+1) h0 with g|⟨d2,q,g1,g2⟩
     ·simp only at hd;rw [g] at hd;cases hd
     ·simp only at hd;rw [g1] at hd
      simp only [List.cons.injEq] at hd
      rw [hd.1] at g2
      omega
    ·rw [if_neg c2] at hd
     simp only [List.nil_append] at hd
     exact absurd (said _ hd) c1
theorem last_first {key:Str} (l:List Write) (hn:(l.map (·.Key)).Nodup): ∀s:Str×Bool,l.foldl (fun s x=>if x.Key=key then (if x.Del=true then ([],false) else (x.Val,true)) else s) s=(match l.find? (keyB key) with|some x=>if x.Del=true then ([],false) else (x.Val,true)|none=>s):=by
 induction l with
 |nil=>intro s;rfl
 |cons x r ih=>
  intro s
  have hn':=List.nodup_cons.1 (by simpa using hn:(x.Key::r.map (·.Key)).Nodup)
  rw [List.foldl_cons,List.find?_cons,ih hn'.2]
  by_cases hx:x.Key=key
  ·rw [if_pos hx,show keyB key x=true from decide_eq_true hx]
   have:r.find? (keyB key)=none:=List.find?_eq_none.2 fun y hy hq=>hn'.1 (by rw [hx,←of_decide_eq_true hq];exact List.mem_map_of_mem (f:=(·.Key)) hy)
   rw [this]
  ·rw [if_neg hx,show keyB key x=false from decide_eq_false hx]
theorem law13_EngineReads_true (w:EngineReadsIn) (o:okEngineReadsIn w) (hb:bkEngineReadsIn w≤1048576):law13_EngineReads w=some true:=by
 unfold okEngineReadsIn at o
 unfold bkEngineReadsIn at hb
 have hk:w.Key.length≤2000000:=by omega
 obtain ⟨r,h1,h2⟩:=plays_inv (i64_of o.1) (acts13_of o.2.1 (by omega))
 unfold law13_EngineReads
 rw [shown13,h1]
 simp only [Option.bind_some,Bool.not_true,Bool.false_or]
 cases hr:r.2 with
 |false=>rfl
 |true=>
  have h:=h2 hr
  have h6:=h.c.few
  have hok:=h.s.sok.1
  have hd:=hok.d
  simp only [Bool.not_true,Bool.false_eq_true,if_false]
  rw [find_eqE (by omega),ask_eqE (op:=⟨1,w.Key,[],[],[],0⟩) (by omega) h w.Txn hk (by simp) (by simp)]
  simp only [Option.bind_some]
  unfold findT
  cases hf:r.1.T.find? (idB w.Txn) with
  |none=>rfl
  |some t=>
   obtain ⟨ht,hti⟩:=findT_mem hf
   simp only [Bool.not_true,Bool.false_eq_true,if_false]
   cases hq:(askE r.1 w.Txn ⟨1,w.Key,[],[],[],0⟩).2 with
   |nil=>rfl
   |cons d q=>
    cases q with
    |cons d2 q2=>rw [if_pos (by simp;omega)];rfl
    |nil=>
     have e1:ix [d] 0=some d:=rfl
     rw [if_neg (by simp),e1]
     simp only [Option.bind_some]
     by_cases he:d.Err=0
     ·have hd1:=reads_ask (n:=300) (by decide) h ht hk (d:=d) (by rw [hti];exact hq) he
      rw [if_neg (by simp [he]),rtfind_eq (by omega)]
      simp only [Option.bind_some]
      have hwl:=(h.c.wr t ht).len
      have hfold:=(fold_loop (ρ:=Str×Bool) t.Writes (fun k (s:Str×Bool)=>(s.1,s.2,(k:Int))) (fun (s1:Str×Bool×Int)=>law13_EngineReads_l2 w (t,true) s1.1 s1.2.1 s1.2.2) (fun s x=>if x.Key=w.Key then (if x.Del=true then ([],false) else (x.Val,true)) else s) (fun s=>(s.1,s.2)) (fun _ _=>True)
       (fun j x s hj _=>by
         have hlt:=(List.getElem?_eq_some_iff.1 hj).1
         refine ⟨?_,trivial⟩
         simp only
         unfold law13_EngineReads_l2
         rw [if_pos (by simpa using hlt),aP hlt,(List.getElem?_eq_some_iff.1 hj).2,IntWalk.i64_in _ ⟨by omega,by omega⟩]
         simp only [Option.bind_some]
         by_cases c:x.Key=w.Key
         ·rw [if_pos (by simpa using c),if_pos c]
          cases x.Del<;>rfl
         ·rw [if_neg (by simpa using c),if_neg c]
          rfl)
       (fun s _=>by
         simp only
         unfold law13_EngineReads_l2
         rw [if_neg (by simp)]) (findM r.1.X.S.Data w.Key) trivial).1
      simp only [Int.natCast_zero,Int.ofNat_eq_natCast] at hfold
      rw [hfold,last_first _ (h.c.wr t ht).keys]
      have eg:(match t.Writes.find? (keyB w.Key) with|some x=>if x.Del=true then (([]:Str),false) else (x.Val,true)|none=>findM r.1.X.S.Data w.Key)=getW t.Writes r.1.X.S.Data w.Key:=rfl
      rw [eg]
      simp only [Option.bind_some,if_true]
      rw [hd1]
      simp [hti]
     ·rw [if_pos (by simp [he])]
end Go.Ab
namespace Go.Proofs.YtgeafeohfiejcaaGreatDoor.engineReads
open Go.ChangeShapes Go.WideShapes Go.ChangeAt Go.RowKit Go.Ab
set_option linter.unusedVariables false
set_option linter.unusedSimpArgs false
set_option maxRecDepth 100000
theorem own:ownKnob Tryz.prog.godebug=none:=by kernel_rfl
mutual
theorem bulk_le {H:Type}: ∀d:DataW H,co d≤Rows.uptoBulk d
 | .lit l=>by cases l<;>simp [co,Rows.uptoBulk]
 | .nil=>by simp [co,Rows.uptoBulk]
 | .ptr d=>by have:=bulk_le d;simp [co,Rows.uptoBulk];omega
 | .slice e s=>by have:=bulkAll_le e;have:=bulkAll_le s;simp [co,Rows.uptoBulk];omega
 | .agg e=>by have:=bulkAll_le e;simp [co,Rows.uptoBulk];omega
 | .iface _ d=>by simp [co]
 | .map _=>by simp [co]
 | .held _=>by simp [co]
theorem bulkAll_le {H:Type}: ∀l:List (DataW H),bU l≤Rows.uptoBulkAll l
 |[]=>by simp [bU]
 |d::r=>by have:=bulk_le d;have:=bulkAll_le r;simp [bU,Rows.uptoBulkAll];omega
end
theorem et:Tryz.prog.globalNamed "errors.errorType" =some 0:=by kernel_rfl
theorem rt:(Tryz.prog.cutTypes.find? (·.1 == "internal/reflectlite.rtype")).map (·.2)=some 302:=by kernel_rfl
theorem oneRow:((List.range 371).filter fun t=>Tryz.prog.rowNamed t [101,114,114,111,114])=[157]:=by kernel_rfl
theorem size:Tryz.prog.types.size=371:=by kernel_rfl
theorem handle_of_laid {W:World} (h:laidMetH Tryz.prog Rows.engineReadsUptoRow.laid W):W.cell? ⟨0,0,none⟩=some (.iface 302 (.agg #[.pointer (some ⟨1,157,none⟩)])):=by
 have h':laidMet Tryz.prog [] W∧handlesMet Tryz.prog Rows.engineReadsUptoRow.laid W:=h
 obtain ⟨name,u,ty,e1,e2,e3,e4,e5⟩:=h'.2 _ (List.mem_singleton.2 rfl)
 have en:name=[101,114,114,111,114]:=(Option.some.inj e1).symm
 subst en
 obtain rfl:=Option.some.inj (rt.symm.trans e2)
 have hm:ty∈(List.range 371).filter fun t=>Tryz.prog.rowNamed t [101,114,114,111,114]:=List.mem_filter.2 ⟨List.mem_range.2 (by rw [←size];exact e3),e4⟩
 rw [oneRow] at hm
 obtain rfl:=List.mem_singleton.1 hm
 have hh:typeHandle Tryz.prog 157= .pointer (some ⟨1,157,none⟩):=by kernel_rfl
 rw [hh] at e5
 simpa using World.var?_cell et e5 0
noncomputable def laidWorld (os:Os):World:=
 let w0:=World.holding Tryz.prog os ⟨#[],#[],[]⟩
 {w0 with heap:=w0.heap.modify 0 fun
  | .cells _ t frozen=>.cells #[.iface 302 (.agg #[.pointer (some ⟨1,157,none⟩)])] t frozen
  |o=>o}
theorem laidWorld_met (os:Os) (args:Array Value):laidMetH Tryz.prog Rows.engineReadsUptoRow.laid ((laidWorld os).forCall (fun _ _=>0) ⟨#[],args,[]⟩).memory:=
 laidMetH_of_parts (laidMet_nil _ _) (by kernel_rfl)
theorem contract (H:Type) (enc:TypeId×Value→H) (W:World) (base:Nat) (args:Array Value) (ds gs:List (DataW H)) (before:List MemPlace)
 (hval: ∀(j:Nat) t v,Tryz.f4.params[j]? =some t→args[j]? =some v→Value.okWide Tryz.prog W .any base t v)
 (hW:DataW.Whole enc Tryz.prog Tryz.f4.params.toList Rows.engineReadsSpec.vars false W args.toList ds gs before) (hk:Rows.uptoSmall H (ds++gs)=true) (hGW:GW W):
 Calls Tryz.prog 4 args W fun e W'=> ∃v,e= .returned v∧Rows.engineReadsSpec.post enc Tryz.prog Tryz.f4 false true false false W args v W':=by
 have hW':=hW
 obtain ⟨p,q,hA0,hV,rfl,hfz,hnd⟩:=hW
 have hA:DataW.TrodAll enc Tryz.prog W 0 (fun _=>true) true Tryz.f4.params.toList args.toList ds p:=hA0
 rw [Tryz.params4] at hA hval
 obtain ⟨v0,vs0,d0,ds0,p0,q0,hargs,rfl,rfl,h0,r0⟩:=trodAll_cons hA
 obtain ⟨rfl,rfl,rfl⟩:=trodAll_nil r0
 obtain rfl:args= #[v0]:=by cases args;simp_all
 obtain ⟨rfl,rfl⟩:=trodVars_none hV
 obtain ⟨c0,k0,rfl,t0⟩:=arg_agg Tryz.underlying57 (hval 0 57 v0 rfl rfl) h0
 obtain ⟨x0,g0,o0,b0⟩:=rd57 t0
 have hb:=of_decide_eq_true hk
 simp only [List.cons_append,List.nil_append,List.append_nil,Rows.uptoBulkAll] at hb
 have l0:=bulk_le d0
 simp only [] at b0
 have hp:law13_EngineReads x0=some true:=law13_EngineReads_true x0 o0 (by omega)
 refine ((law13_EngineReads_walk hp).run W (Old W) _ hGW (fun _ h=>h) (ci.cells (ci.cons g0.agg ci.none))).mono fun e W' h=> ?_
 obtain ⟨r,x,F',rfl,rfl,hr,_,_,_,T⟩:=h
 cases hr
 exact ⟨_,rfl,post_true hW' rfl rfl rfl Tryz.underlying4 (by kernel_rfl) (by rw [Tryz.params4];intro t ht;simp only [List.mem_cons,List.not_mem_nil,or_false] at ht;subst ht;exact ⟨by kernel_rfl,of_decide_eq_true (by kernel_rfl)⟩) (below_of_touch T)⟩
theorem lifted (os:Os) (started:os.Started) (H:Type) (enc:TypeId×Value→H) (F:Stop.Interp):
 ReturnsInHanded {} Tryz.checked os 4 .any ((Rows.OpenSpec.upto Rows.engineReadsSpec).preRow enc Tryz.prog Tryz.f4 Rows.engineReadsUptoRow.domain false Rows.engineReadsUptoRow.laid) (((Rows.OpenSpec.upto Rows.engineReadsSpec).at F).post enc Tryz.prog Tryz.f4 false true false false):=by
 refine returnsInHanded_of_row (C:=Tryz.checked) (s:=Rows.OpenSpec.upto Rows.engineReadsSpec) (laid:=Rows.engineReadsUptoRow.laid) own started (by kernel_rfl) Tryz.func4
  (witness_row_at (enc:=enc) (C:=Tryz.checked) (s:=Rows.OpenSpec.upto Rows.engineReadsSpec) (laid:=Rows.engineReadsUptoRow.laid) false (laidWorld os) #[.agg #[.int .i64 0,.slice none 0 0,.int .i64 0,.string ByteArray.empty]] rfl (by kernel_rfl) (by kernel_rfl) (by kernel_rfl)
    (OpenSpec.preRow_of_cond 64 (x:=([.agg [.lit (.int .i64 0),.nil,.lit (.int .i64 0),.lit (.string [])]],[],[])) (by kernel_rfl) rfl (fun k hk=>by obtain rfl:=Option.some.inj hk;kernel_rfl) (by kernel_rfl) (laidWorld_met os _))) ?_
 intro W base args ds gs before hval hW _ hk _ hL _ _
 exact contract H enc W base args ds gs before hval hW (hk _ rfl) (handle_of_laid hL)
theorem row:Rows.EngineReadsUptoSaid:=
 OpenClaim.holds_of_cond 4 Tryz.f4 rfl rfl rfl rfl rfl rfl rfl ⟨rfl,rfl,rfl,rfl,rfl⟩ rfl rfl rfl rfl rfl (by kernel_rfl) Tryz.func4 (by kernel_rfl)
  (of_decide_eq_true (by kernel_rfl)) (by unfold Func.isWrapper;first|(rw [if_pos (by decide+kernel)];kernel_rfl)|(rw [if_neg (by decide+kernel)];exact ⟨rfl,rfl⟩))
  (fun os started H enc _ F=>by rw [OpenClaim.pre_eq_preRow];exact lifted os started H enc F)
theorem proved:Rows.EngineReadsUptoCardSaid:=
 Claim7.holds_tied_plain_at .later [] [.handle] true (true,"51667b85680189edde9a9f823259c9ca54447a1139d2e9f386d3e274a90afc82") true row (fun _ h=>by cases h) (by kernel_rfl) (fun _ h=>by cases h) engineReadsUpto_row_tie rfl ⟨rfl,rfl⟩ (by kernel_rfl) rfl
  (fun f fn hf hfn=>by
    obtain rfl:f=4:=Option.some.inj ((show Tryz.prog.funcNamed "stanchion/stanchionlaw13.EngineReads" =some 4 by kernel_rfl).symm.trans hf)|>.symm
    obtain rfl:fn=Tryz.f4:=(Option.some.inj (Tryz.func4.symm.trans hfn)).symm
    exact ⟨by kernel_rfl,fun j t ht=>by
     rw [Tryz.params4] at ht
     have hm:=Array.mem_of_getElem? ht
     simp only [List.mem_toArray,List.mem_cons,List.not_mem_nil,or_false] at hm
     subst hm
     ·exact (show Tryz.prog.wantsStandIn 57=false by kernel_rfl)⟩)
  (by kernel_rfl)
end Go.Proofs.YtgeafeohfiejcaaGreatDoor.engineReads
