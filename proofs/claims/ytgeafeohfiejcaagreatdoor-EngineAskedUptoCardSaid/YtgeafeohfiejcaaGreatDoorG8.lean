/- The engine's operations: program and models alike (plain). and what follows it, up to: What transactions hold never clashes (plain). -/
import Derived.Test.YtgeafeohfiejcaaGreatDoorG7
namespace Go.Ab
set_option linter.unusedVariables false
set_option linter.unusedSimpArgs false
theorem delT_eq {l:List Txn} (hl:l.length≤2000000) (v:Int):aM l v=some (l.filter (fun h=> !decide (h.Id=v))):=by
 unfold aM bY
 rcases find_first l (fun h=>decide (h.Id=v)) (fun k=>(.inl (k:Int):Int⊕Unit)) (.inr ()) (fun (s169:Int)=>aJ l v s169) (fun k x hk=>by
  have hlt:=(List.getElem?_eq_some_iff.1 hk).1
  unfold aJ engine_work_goes_1
  rw [if_pos (by simpa using hlt),aP hlt,(List.getElem?_eq_some_iff.1 hk).2,IntWalk.i64_in _ ⟨by omega,by omega⟩]
  by_cases h:x.Id=v<;>simp [h]) (by unfold aJ;rw [if_neg (by simp)]) with ⟨k,x,hk,h1,h2,h3⟩|⟨h1,h3⟩
 ·have hlt:=(List.getElem?_eq_some_iff.1 hk).1
  have hx:=(List.getElem?_eq_some_iff.1 hk).2
  rw [h1]
  simp only [Option.bind_some]
  rw [if_neg (by first|(simp;done)|(simp;omega)),IntWalk.i64_in _ ⟨by omega,by omega⟩]
  obtain ⟨i2,a2,e1,e2,e3,e4⟩:=del_loop l (fun h=>decide (h.Id=v)) (fun (s343:Int×Int×(List Txn))=>aI v s343.1 s343.2.1 s343.2.2)
   (fun i j a x hij ha hx=>by
     have hlt:=(List.getElem?_eq_some_iff.1 hx).1
     simp only
     unfold aI engine_work_goes_1
     rw [if_pos (by simpa using hlt),aP hlt,(List.getElem?_eq_some_iff.1 hx).2,IntWalk.i64_in ((j:Int)+1) ⟨by omega,by omega⟩,IntWalk.i64_in ((i:Int)+1) ⟨by omega,by omega⟩,aP (show i<a.length by omega)]
     by_cases h:x.Id=v<;>simp [h])
   (fun i a ha=>by
     simp only
     unfold aI
     rw [if_neg (by simp;omega)])
   (l.length - (k+1)) k (k+1) l (by omega) (by omega) rfl rfl (by
     rw [List.take_succ_eq_append_getElem hlt,List.filter_append,hx]
     have hf:(l.take k).filter (fun h=> !decide (h.Id=v))=l.take k:=List.filter_eq_self.2 (fun y hy=>by have:=h3 y hy;simp at this;simp [this])
     have h2':x.Id=v:=by simpa using h2
     rw [hf];simp [List.filter_cons,h2'])
  rw [show ((k:Int)+1)=((k+1:Nat):Int) from rfl,e1]
  simp only [Option.bind_some]
  have hn:(((List.map aB a2).length:Nat):Int).toNat=a2.length:=by simp
  rw [ah (by omega),ah (by omega),ah (by simp only [List.length_append,List.length_take,List.length_drop,List.length_replicate,hn];omega),ah (by simp only [List.length_append,List.length_take,List.length_drop,List.length_replicate,hn,Int.toNat_natCast];omega)]
  rw [Int.toNat_natCast]
  exact congrArg some ((del_end a2 _ _ i2 (by omega)).trans e4)
 ·rw [h1]
  simp only [Option.bind_some]
  rw [if_pos (by decide)]
  congr 1
  exact (List.filter_eq_self.2 (fun y hy=>by have:=h3 y hy;simp at this;simp [this])).symm
theorem delT_out {l:List Txn} (hl:l.length≤2000000) (v:Int):aM l v=some (outT l v):=delT_eq hl v
theorem between_eq (key lo hi:Str):table_Between key lo hi=some ((!ltS key lo)&&(decide (hi=[])||ltS key hi)):=by
 unfold table_Between
 cases ltS key lo<;>by_cases h:hi=[]<;>simp [h]
theorem range_eq {l:List Pair} (hl:l.length≤2000000000000) (lo hi:Str) (most:Int):table_Range l lo hi most=some (rangeM l lo hi most.toNat):=by
 unfold table_Range rangeM
 obtain ⟨r,h1,h2⟩:=rounds_loop (fun (s1:Int×(List Pair))=>table_Range_l2 l lo hi most s1.1 s1.2)
  (fun k s=>k≤l.length∧s=((k:Int),((l.take k).filter (inB lo hi)).take most.toNat)) (fun r=>r=(l.filter (inB lo hi)).take most.toNat) l.length
  (fun k s hk e=>by
    obtain ⟨_,rfl⟩:=e
    have hg:=List.getElem?_eq_getElem hk
    have ht:l.take (k+1)=l.take k++[l[k]]:=by rw [List.take_add_one,hg];rfl
    have hlen:((l.take k).filter (inB lo hi)).length≤k:=Nat.le_trans (List.length_filter_le _ _) (by rw [List.length_take];omega)
    simp only
    unfold table_Range_l2
    rw [if_pos (by simpa using hk),aP hk]
    simp only [Option.bind_some]
    by_cases hm:most.toNat≤((l.take k).filter (inB lo hi)).length
    ·refine .inr ⟨_,?_,rfl⟩
     rw [if_pos (by simp only [decide_eq_true_eq,List.length_take];omega)]
     simp only [Option.bind_some]
     congr 2
     have e:l=l.take k++l.drop k:=(List.take_append_drop k l).symm
     conv=>rhs;rw [e,List.filter_append,List.take_append_of_le_length hm]
    ·refine .inl ⟨_,?_,by omega,rfl⟩
     have e1:((l.take k).filter (inB lo hi)).take most.toNat=(l.take k).filter (inB lo hi):=List.take_of_length_le (by omega)
     rw [e1,if_neg (by simp only [decide_eq_true_eq];omega),between_eq]
     simp only [Option.bind_some]
     rw [show ((!ltS l[k].Key lo)&&(decide (hi=[])||ltS l[k].Key hi))=inB lo hi l[k] from rfl,ht,List.filter_append]
     cases hb:inB lo hi l[k] with
     |true=>
      have e2:((l.take k).filter (inB lo hi)++[l[k]].filter (inB lo hi)).take most.toNat=(l.take k).filter (inB lo hi)++[l[k]]:=by
       rw [show [l[k]].filter (inB lo hi)=[l[k]] by simp [hb]]
       exact List.take_of_length_le (by simp only [List.length_append,List.length_cons,List.length_nil];omega)
      simp only [if_true]
      rw [ah (by omega),e2]
      simp only [Option.bind_some]
      rw [IntWalk.i64_in _ ⟨by omega,by omega⟩]
      rfl
     |false=>
      simp only [Bool.false_eq_true,if_false,Option.bind_some]
      rw [IntWalk.i64_in _ ⟨by omega,by omega⟩,show [l[k]].filter (inB lo hi)=[] by simp [hb],List.append_nil,e1]
      rfl)
  (fun s e=>by
    obtain ⟨_,rfl⟩:=e
    refine ⟨_,?_,rfl⟩
    simp only
    unfold table_Range_l2
    rw [if_neg (by simp),List.take_length]) (s:=((0:Int),([]:List Pair))) ⟨by omega,by simp⟩
 rw [h1,h2]
 rfl
theorem vscan_eq {w:List Write} {base:List Pair} (hl:base.length+w.length≤2000000000000) (lo hi:Str) (most:Int):view_Scan w base lo hi most=some (rangeM (applyM base w) lo hi most.toNat):=by
 have:=applyM_len w base
 unfold view_Scan
 rw [tapply_eq hl]
 simp only [Option.bind_some]
 rw [range_eq (by omega)]
 rfl
theorem big_eq {l:List Write} (hl:l.length≤1000000) (hs: ∀x∈l,x.Key.length+x.Val.length≤1099511627776):(if (decide ((l.length:Int)>24))=true then some true else (view_Size l).bind fun y5=>some (decide (y5>512)))=some (bigM l):=by
 unfold bigM
 by_cases h:24<l.length
 ·rw [if_pos (by simp only [decide_eq_true_eq];omega),decide_eq_true (.inl h)]
 ·rw [if_neg (by simp only [decide_eq_true_eq];omega),vsize_eq hl hs]
  simp only [Option.bind_some,Option.some.injEq,decide_eq_decide]
  omega
theorem does_eqE {v:Engine} {l:List Done} {t:Txn} {op:Op_} (hT:v.T.length≤1000) (hn:(v.T.map (·.Id)).Nodup) (ht:t.Id∈v.T.map (·.Id)) (hw:WrOk t.Writes) (hm:mayO op=true) (hs:SOk v.X.S) (hl:l.length≤1000000000000):
 engine_work_does v l t op=some ((doesO v t op).1,l++[(doesO v t op).2]):=by
 have hwl:=hw.len
 have hd:=hs.d
 have fin:op.Kind=2∨op.Kind=3→ ∀w:Write,w=writeM op→((view_Set t.Writes w).bind fun y4=>
  (if (decide ((y4.length:Int)>24))=true then some true else (view_Size y4).bind fun y5=>some (decide (y5>512))).bind fun (y6:Bool)=>
  if y6=true then some (v,(4:Int),([]:Str),false,([]:List Pair)) else (engine_work_put v l (⟨t.Id,t.Token,y4,t.Waits,t.Op⟩:Txn)).bind fun y7=>some (y7,(0:Int),([]:Str),false,([]:List Pair)))=
  some (if bigM (setW t.Writes (writeM op))=true then (v,(4:Int),([]:Str),false,([]:List Pair)) else ({v with T:=putT v.T {t with Writes:=setW t.Writes (writeM op)}},(0:Int),([]:Str),false,([]:List Pair))):=by
  intro hk w e
  subst e
  have hg:=write_good hm hk
  have h1:=setW_len t.Writes (writeM op)
  rw [vset_eq (by omega)]
  simp only [Option.bind_some]
  rw [big_eq (by omega) (fun x hx=>by
   rcases setW_mem hx with rfl|hx
   ·omega
   ·have:=hw.good x hx;omega)]
  simp only [Option.bind_some]
  split
  ·rfl
  ·rw [put_eqE (t:= {t with Writes:=setW t.Writes (writeM op)}) (by omega) hn ht]
   rfl
 unfold engine_work_does doesO
 by_cases h1:op.Kind=1
 ·rw [if_pos (show decide (op.Kind=1)=true by simpa using h1),if_pos h1,vget_eq (by omega) (by omega)]
  simp only [Option.bind_some]
  rw [ah (by omega)]
 rw [if_neg (show ¬decide (op.Kind=1)=true by simpa using h1),if_neg h1]
 by_cases h4:op.Kind=4
 ·rw [if_pos (show decide (op.Kind=4)=true by simpa using h4),if_pos h4,vscan_eq (by omega)]
  simp only [Option.bind_some]
  rw [ah (by omega)]
 rw [if_neg (show ¬decide (op.Kind=4)=true by simpa using h4),if_neg h4]
 by_cases h3:op.Kind=3
 ·rw [if_pos (show decide (op.Kind=3)=true by simpa using h3),if_pos (show op.Kind=2∨op.Kind=3 from .inr h3)]
  simp only [Option.bind_some]
  rw [fin (.inr h3) _ (by unfold writeM;rw [if_pos h3];rfl)]
  simp only [Option.bind_some]
  rw [ah (by omega)]
  split<;>rfl
 rw [if_neg (show ¬decide (op.Kind=3)=true by simpa using h3)]
 by_cases h2:op.Kind=2
 ·rw [if_pos (show decide (op.Kind=2)=true by simpa using h2),if_pos (show op.Kind=2∨op.Kind=3 from .inl h2)]
  simp only [Option.bind_some]
  rw [fin (.inl h2) _ (by unfold writeM;rw [if_neg h3];rfl)]
  simp only [Option.bind_some]
  rw [ah (by omega)]
  split<;>rfl
 rw [if_neg (show ¬decide (op.Kind=2)=true by simpa using h2),if_neg (show ¬(op.Kind=2∨op.Kind=3) by omega)]
 simp only [Option.bind_some]
 rw [ah (by omega)]
structure GInv (os:List Int) (s:World):Prop where
 nd:(s.1.T.map (·.Id)).Nodup
 len:s.1.T.length≤6
 wr: ∀t∈s.1.T,WrOk t.Writes
 may: ∀t∈s.1.T,t.Id∈os→mayO t.Op=true
 nod:os.Nodup
 sok:SOk s.1.X.S
 has: ∀o∈os,∃t∈s.1.T,t.Id=o
theorem GInv.step {o:Int} {r:List Int} {s:World} (h:GInv (o::r) s) (hl:s.2.length≤900000000100):GInv r (stepG s o)∧(stepG s o).2.length=s.2.length+1∧
 ((dw s.1 o).bind fun y2=>if (!y2.2)=true then some (s.1,s.2) else
   (engine_work_put s.1 s.2 (⟨y2.1.Id,y2.1.Token,y2.1.Writes,false,(⟨0,[],[],[],[],0⟩:Op_)⟩:Txn)).bind fun y3=>
   (engine_work_does y3 s.2 (⟨y2.1.Id,y2.1.Token,y2.1.Writes,false,(⟨0,[],[],[],[],0⟩:Op_)⟩:Txn) y2.1.Op).bind fun y4=>some (y4.1,y4.2))=some ((stepG s o).1,(stepG s o).2):=by
 obtain ⟨h1,h2⟩:=List.nodup_cons.1 h.nod
 have hlen:=h.len
 obtain ⟨t,ht,hto⟩:=h.has o (List.mem_cons_self ..)
 have hm:=h.may t ht (by rw [hto];exact List.mem_cons_self ..)
 obtain ⟨u,d,k1,k2,k3,k4⟩:=stepG_spec h.nd ht hto (h.wr t ht) hm
 have huo:u.Id=o:=k1.id.trans hto
 refine ⟨?_,by rw [k2];simp,?_⟩
 ·rw [k2]
  refine ⟨by simp only;rw [putT_ids];exact h.nd,by simp only;rw [putT_len];exact h.len,fun y hy=> ?_,fun y hy hyr=> ?_,h2,h.sok,fun x hx=> ?_⟩
  ·rcases putT_mem hy with ⟨rfl,_⟩|⟨hy,_⟩
   ·exact k1.wr
   ·exact h.wr y hy
  ·rcases putT_mem hy with ⟨rfl,_⟩|⟨hy,_⟩
   ·rw [huo] at hyr;exact absurd hyr h1
   ·exact h.may y hy (List.mem_cons_of_mem _ hyr)
  ·obtain ⟨y,hy,hyx⟩:=h.has x (List.mem_cons_of_mem _ hx)
   exact ⟨y,putT_in hy (by rw [hyx,huo];intro e;subst e;exact h1 hx),hyx⟩
 ·subst hto
  have hf:=findT_of h.nd ht
  rw [find_eqE (by omega)]
  unfold findT stepG
  rw [hf]
  simp only [Option.bind_some,Bool.not_true,Bool.false_eq_true,if_false]
  rw [put_eqE (t:=calm t) (by omega) h.nd (List.mem_map_of_mem (f:=(·.Id)) ht)]
  simp only [Option.bind_some]
  rw [does_eqE (v:=⟨s.1.X,s.1.L,putT s.1.T (calm t),s.1.Next,s.1.Now⟩) (l:=s.2) (t:=calm t) (by simp only;rw [putT_len];omega) (by simp only;rw [putT_ids];exact h.nd) (by simp only;rw [putT_ids];exact List.mem_map_of_mem (f:=(·.Id)) ht) (h.wr t ht) hm h.sok (by omega)]
  rfl
theorem told_len {l:Locks} (v:Int):(bZ l v).2.length≤l.Queue.length:=by
 have h1:=(free_perm l v).length_eq
 have h2:=List.length_filter_le (fun x:Int=> !decide (x=v)) (l.Queue.map (·.Txn))
 rw [List.length_append,List.length_map] at h1
 rw [List.length_map] at h2
 omega
theorem goes_eqE {n:Nat} (hn:n≤1000000) {s:World} (h:CInv n s.1) (hs:SOk s.1.X.S) (hl:s.2.length≤900000000000) (id:Int):engine_work_goes s.1 s.2 id=some ((goesM s id).1,(goesM s id).2)∧(goesM s id).2.length≤s.2.length+16:=by
 have h6:=h.few
 have hq:=h.lock.few
 have hlen:=h.lock.len
 have htl:=told_len (l:=s.1.L) id
 have hT:((outT s.1.T id).map (·.Id)).Sublist (s.1.T.map (·.Id)):=List.Sublist.map _ List.filter_sublist
 have hND:=free_nodup h.lock.one id
 have hnd:=List.nodup_append.1 hND
 have hmem:=free_mem s.1.L id
 have g0:GInv (bZ s.1.L id).2 ({s.1 with L:=(bZ s.1.L id).1,T:=outT s.1.T id},s.2):=by
  refine ⟨hT.nodup h.nd,Nat.le_trans (List.length_filter_le _ _) h.few,fun t ht=>h.wr t (cf.1 ht).1,fun t ht hi=> ?_,hnd.2.1,hs,fun o ho=> ?_⟩
  ·refine h.op t (cf.1 ht).1 ?_
   rw [h.lt.wait t (cf.1 ht).1,waits_iff]
   exact ((hmem t.Id).1 (.inr hi)).1
  ·obtain ⟨h1,h2⟩:=(hmem o).1 (.inr ho)
   obtain ⟨c,hc,hco⟩:=List.mem_map.1 h1
   obtain ⟨t,ht,hti⟩:=h.lt.que c hc
   exact ⟨t,cf.2 ⟨ht,by rw [hti,hco];exact h2⟩,hti.trans hco⟩
 have h1:=fold_loop (ρ:=Engine×List Done) (bZ s.1.L id).2 (fun k (s:World)=>((k:Int),s.1,s.2)) (fun (s1:Int×Engine×(List Done))=>engine_work_goes_l2 (bZ s.1.L id) s1.1 s1.2.1 s1.2.2) stepG (fun s=>(s.1,s.2))
  (fun k r=>GInv ((bZ s.1.L id).2.drop k) r∧r.2.length≤s.2.length+k)
  (fun k x r hk hi=>by
    have hlt:=(List.getElem?_eq_some_iff.1 hk).1
    obtain ⟨hi,hr⟩:=hi
    rw [List.drop_eq_getElem_cons hlt,(List.getElem?_eq_some_iff.1 hk).2] at hi
    obtain ⟨k1,k2,k3⟩:=hi.step (by omega)
    refine ⟨?_,k1,by omega⟩
    simp only
    unfold engine_work_goes_l2
    rw [if_pos (by simpa using hlt),aP hlt,(List.getElem?_eq_some_iff.1 hk).2]
    simp only [Option.bind_some]
    rw [k3,IntWalk.i64_in _ ⟨by omega,by omega⟩]
    rfl)
  (fun r hi=>by
    simp only
    unfold engine_work_goes_l2
    rw [if_neg (by simp)]) ({s.1 with L:=(bZ s.1.L id).1,T:=outT s.1.T id},s.2) ⟨g0,by simp⟩
 obtain ⟨e1,_,e3⟩:=h1
 refine ⟨?_,by have:(goesM s id).2.length≤s.2.length+(bZ s.1.L id).2.length:=e3;omega⟩
 unfold engine_work_goes
 rw [ah (by omega),delT_out (by omega)]
 simp only [Option.bind_some]
 rw [free_eq h.lock.ok (by omega)]
 simp only [Option.bind_some]
 simp only [Int.natCast_zero,Int.ofNat_eq_natCast] at e1
 rw [e1]
 rfl
theorem ends_eqE {n:Nat} (hn:n≤1000000) {s:World} (h:CInv n s.1) (hs:SOk s.1.X.S) (hl:s.2.length≤800000000000) (id err:Int):cV s.1 s.2 id err=some ((endsM s id err).1,(endsM s id err).2)∧(endsM s id err).2.length≤s.2.length+17:=by
 obtain ⟨h1,h2⟩:=goes_eqE hn (s:=(s.1,s.2++[⟨id,err,[],false,[],true⟩])) h hs (by simp only [List.length_append,List.length_cons,List.length_nil];omega) id
 simp only [List.length_append,List.length_cons,List.length_nil] at h2
 refine ⟨?_,by unfold endsM;omega⟩
 unfold cV endsM
 rw [ah (by omega),h1]
 rfl
end Go.Ab
namespace Go.Ab
set_option linter.unusedVariables false
set_option linter.unusedSimpArgs false
theorem rings_eqE {n:Nat} (hn:n≤1000000) {t:Txn} (m:Nat): ∀ {s:World},CInv n s.1→SOk s.1.X.S→(ringM s.1.L t.Id).length<m→s.2.length+17*m≤800000000000→
 loop (fun (s1:Engine×(List Done))=>engine_work_locks_l2 t s1.1 s1.2) (s.1,s.2)=some ((ringsF m s t.Id).1,(ringsF m s t.Id).2)∧(ringsF m s t.Id).2.length≤s.2.length+17*m:=by
 induction m with
 |zero=>intro s _ _ h;omega
 |succ m ih=>
  intro s h hs hr hl
  rw [loop_eq]
  unfold engine_work_locks_l2 ringsF
  simp only
  rw [victim_eq h.lock.ok (lsm_of h.lock hn)]
  simp only [Option.bind_some]
  cases hv:(victM s.1.L t.Id).2 with
  |false=>exact ⟨rfl,by simp only [Bool.false_eq_true,if_false];omega⟩
  |true=>
   have hin:=vict_in hv
   obtain ⟨e1,e2⟩:=ends_eqE hn h hs (by omega) (victM s.1.L t.Id).1 13
   obtain ⟨ds,r,e3⟩:=ends_spec hn h (ring_waits hin) 13
   simp only [Bool.not_true,Bool.false_eq_true,if_false,if_true]
   rw [e1]
   simp only [Option.bind_some]
   obtain ⟨i1,i2⟩:=ih r.c (by rw [r.x];exact hs) (by rw [e3];have:=ring_less hin;omega) (by omega)
   exact ⟨i1,by omega⟩
theorem ring_size {n:Nat} {l:Locks} (h:LInv n l) (t:Int):(ringM l t).length≤n:=Nat.le_trans (ringM_len l t) h.len
theorem locks_eqE {n:Nat} (hn:n+1≤1000000) {e:Engine} (h:CInv n e) (hs:SOk e.X.S) (hnow:0≤e.Now∧e.Now≤18446744073709551615) {t:Txn} (ht:t∈e.T) (hw:t.Waits=false) {op:Op_} (hm:mayO op=true) (hid:In64 t.Id)
 (hk:op.Key.length≤2000000) (hlo:op.Lo.length≤2000000) (hhi:op.Hi.length≤2000000):engine_work_locks e [] t op=some ((locksM (e,[]) t op).1,(locksM (e,[]) t op).2)∧(locksM (e,[]) t op).2.length≤17*(n+2):=by
 have h6:=h.few
 have hwo:=want_ok hk hlo hhi
 have hL:=linv_ask (by omega) h.lock hid hwo (bT e.Now)
 have hmem:t.Id∈e.T.map (·.Id):=List.mem_map_of_mem (f:=(·.Id)) ht
 unfold engine_work_locks locksM
 rw [wants_eqE hk]
 simp only [Option.bind_some]
 rw [until_eqE hnow.1 hnow.2]
 simp only [Option.bind_some]
 rw [ask_eq h.lock.ok]
 simp only [Option.bind_some]
 by_cases c1:(askM e.L t.Id (wantM op) (bT e.Now)).2=0
 ·rw [if_pos (show decide ((askM e.L t.Id (wantM op) (bT e.Now)).2=0)=true by simpa using c1),if_pos c1,
   does_eqE (v:=⟨e.X,(askM e.L t.Id (wantM op) (bT e.Now)).1,e.T,e.Next,e.Now⟩) (by simp only;omega) h.nd hmem (h.wr t ht) hm hs (by simp)]
  exact ⟨rfl,by simp only [List.nil_append,List.length_cons,List.length_nil];omega⟩
 rw [if_neg (show ¬decide ((askM e.L t.Id (wantM op) (bT e.Now)).2=0)=true by simpa using c1),if_neg c1]
 by_cases c2:(askM e.L t.Id (wantM op) (bT e.Now)).2=12
 ·rw [if_pos (show decide ((askM e.L t.Id (wantM op) (bT e.Now)).2=12)=true by simpa using c2),if_pos c2,
   put_eqE (v:=⟨e.X,(askM e.L t.Id (wantM op) (bT e.Now)).1,e.T,e.Next,e.Now⟩) (t:=⟨t.Id,t.Token,t.Writes,true,op⟩) (by simp only;omega) h.nd hmem]
  simp only [Option.bind_some]
  have h0:CInv (n+1) {e with L:=(askM e.L t.Id (wantM op) (bT e.Now)).1,T:=putT e.T {t with Waits:=true,Op:=op}}:=askE_wait h ht hm hL c2
  have hr:=ring_size hL t.Id
  have:=rings_eqE hn (t:=t) ((ringM (askM e.L t.Id (wantM op) (bT e.Now)).1 t.Id).length+1) (s:=({e with L:=(askM e.L t.Id (wantM op) (bT e.Now)).1,T:=putT e.T {t with Waits:=true,Op:=op}},[])) h0 hs (Nat.lt_succ_self _) (by simp only [List.length_nil];omega)
  rw [this.1]
  exact ⟨rfl,Nat.le_trans this.2 (by simp only [List.length_nil];omega)⟩
 ·rw [if_neg (show ¬decide ((askM e.L t.Id (wantM op) (bT e.Now)).2=12)=true by simpa using c2),if_neg c2,ah (by simp)]
  exact ⟨rfl,by simp only [List.nil_append,List.length_cons,List.length_nil];omega⟩
theorem commit_eqE {e:Engine} (h:StoOk e.X) (l:List Done) (t:Txn) (b:Batch):engine_work_commit e l t b=some ((bK e.X ⟨b.Kind,t.Token,b.Writes⟩).2,{e with X:=(bK e.X ⟨b.Kind,t.Token,b.Writes⟩).1}):=by
 unfold engine_work_commit
 rw [commit_eqK h]
 rfl
theorem cinvX {n:Nat} {e:Engine} (h:CInv n e) (X:Store):CInv n {e with X:=X}:=⟨h.lock,h.ids,h.pos,h.few,h.lt,h.wr,h.op⟩
theorem ask_all {n:Nat} (hn:n+1≤1000000) {e:Engine} (h:EInv n e) (id:Int) {op:Op_} (hk:op.Key.length≤2000000) (hlo:op.Lo.length≤2000000) (hhi:op.Hi.length≤2000000):engine_Ask e id op=some ((askE e id op).1,(askE e id op).2)∧(askE e id op).2.length≤17*(n+2):=by
 have h6:=h.c.few
 unfold engine_Ask askE
 rw [find_eqE (by omega)]
 unfold findT
 cases hf:e.T.find? (idB id) with
 |none=>exact ⟨rfl,by simp only [List.length_cons,List.length_nil];omega⟩
 |some t=>
  obtain ⟨ht,rfl⟩:=findT_mem hf
  simp only [Option.bind_some,Bool.not_true,Bool.false_eq_true,if_false]
  cases hw:t.Waits with
  |true=>exact ⟨rfl,by simp only [if_true,List.length_cons,List.length_nil];omega⟩
  |false=>
   simp only [Bool.false_eq_true,if_false]
   rw [may_eqE]
   simp only [Option.bind_some]
   cases hm:mayO op with
   |false=>exact ⟨rfl,by simp only [if_true,List.length_cons,List.length_nil];omega⟩
   |true=>
    simp only [Bool.not_true,Bool.false_eq_true,if_false,Bool.true_eq_false]
    have fin: ∀b:Batch,b.Token=t.Token→(cV {e with X:=(bK e.X b).1} [] t.Id (bK e.X b).2)=some ((endsM ({e with X:=(bK e.X b).1},[]) t.Id (bK e.X b).2).1,(endsM ({e with X:=(bK e.X b).1},[]) t.Id (bK e.X b).2).2)∧(endsM ({e with X:=(bK e.X b).1},[]) t.Id (bK e.X b).2).2.length≤0+17:=fun b hb=>
     (ends_eqE (by omega) (s:=({e with X:=(bK e.X b).1},[])) (cinvX h.c _) (h.s.commit ht hb).sok.1 (by simp) t.Id (bK e.X b).2)
    by_cases c5:op.Kind=5
    ·have hb:batchM t op=⟨1,t.Token,t.Writes⟩:=by unfold batchM;rw [if_pos c5]
     rw [if_pos (show decide (op.Kind=5)=true by simpa using c5),if_pos (show op.Kind=5∨op.Kind=6 from .inl c5),commit_eqE h.s.sto,hb]
     simp only [Option.bind_some]
     have f2:=(fin ⟨1,t.Token,t.Writes⟩ rfl).2
     rw [(fin ⟨1,t.Token,t.Writes⟩ rfl).1]
     exact ⟨rfl,by omega⟩
    rw [if_neg (show ¬decide (op.Kind=5)=true by simpa using c5)]
    by_cases c6:op.Kind=6
    ·have hb:batchM t op=⟨2,t.Token,[]⟩:=by unfold batchM;rw [if_neg c5]
     rw [if_pos (show decide (op.Kind=6)=true by simpa using c6),if_pos (show op.Kind=5∨op.Kind=6 from .inr c6),commit_eqE h.s.sto,hb]
     simp only [Option.bind_some]
     have f2:=(fin ⟨2,t.Token,[]⟩ rfl).2
     rw [(fin ⟨2,t.Token,[]⟩ rfl).1]
     exact ⟨rfl,by omega⟩
    rw [if_neg (show ¬decide (op.Kind=6)=true by simpa using c6),if_neg (show ¬(op.Kind=5∨op.Kind=6) by omega),(locks_eqE hn h.c h.s.sok.1 h.now ht hw hm (h.id64 (by omega) ht) hk hlo hhi).1]
    exact ⟨rfl,(locks_eqE hn h.c h.s.sok.1 h.now ht hw hm (h.id64 (by omega) ht) hk hlo hhi).2⟩
theorem ask_eqE {n:Nat} (hn:n+1≤1000000) {e:Engine} (h:EInv n e) (id:Int) {op:Op_} (hk:op.Key.length≤2000000) (hlo:op.Lo.length≤2000000) (hhi:op.Hi.length≤2000000):engine_Ask e id op=some ((askE e id op).1,(askE e id op).2):=(ask_all hn h id hk hlo hhi).1
theorem ask_len {n:Nat} (hn:n+1≤1000000) {e:Engine} (h:EInv n e) (id:Int) {op:Op_} (hk:op.Key.length≤2000000) (hlo:op.Lo.length≤2000000) (hhi:op.Hi.length≤2000000):(askE e id op).2.length≤17*(n+2):=(ask_all hn h id hk hlo hhi).2
theorem leave_eqE {n:Nat} (hn:n≤1000000) {e:Engine} (h:EInv n e) (id:Int):engine_Leave e id=some ((leaveE e id).1,(leaveE e id).2):=by
 have h6:=h.c.few
 unfold engine_Leave leaveE
 rw [find_eqE (by omega)]
 unfold findT
 cases hf:e.T.find? (idB id) with
 |none=>rfl
 |some t=>
  obtain ⟨ht,rfl⟩:=findT_mem hf
  simp only [Option.bind_some,Bool.not_true,Bool.false_eq_true,if_false]
  rw [commit_eqE h.s.sto]
  simp only [Option.bind_some]
  have e1:=(goes_eqE hn (s:=({e with X:=(bK e.X ⟨2,t.Token,[]⟩).1},[])) (cinvX h.c _) (h.s.commit ht rfl).sok.1 (by simp) t.Id).1
  simp only at e1
  rw [e1]
  rfl
theorem tick_all {n:Nat} (hn:n≤1000000) {e:Engine} (h:EInv n e) (now:Int):engine_Tick e now=some ((tickE e now).1,(tickE e now).2)∧(tickE e now).2.length≤272:=by
 have hq:=h.c.lock.few
 have hmax:(if e.Now<now then now else e.Now)=max e.Now now:=by rw [Int.max_def];split<;>split<;>omega
 have hll:=lateM_len e.L (max e.Now now)
 have h1:=fold_loop (ρ:=Engine×List Done) (lateM e.L (max e.Now now)) (fun k (s:World)=>((k:Int),s.1,s.2)) (fun (s1:Int×Engine×(List Done))=>engine_Tick_l2 (lateM e.L (max e.Now now)) s1.1 s1.2.1 s1.2.2) stepT (fun s=>(s.1,s.2))
  (fun k r=>CInv n r.1∧r.1.X=e.X∧r.2.length≤17*k)
  (fun k x r hk hi=>by
    have hlt:=(List.getElem?_eq_some_iff.1 hk).1
    obtain ⟨hc,hx,hr⟩:=hi
    have st:(if da r.1.L x=true then (cV r.1 r.2 x 13).bind fun y3=>some (y3.1,y3.2) else some (r.1,r.2))=some ((stepT r x).1,(stepT r x).2)∧CInv n (stepT r x).1∧(stepT r x).1.X=e.X∧(stepT r x).2.length≤17*(k+1):=by
     unfold stepT
     cases hw:da r.1.L x with
     |false=>exact ⟨rfl,hc,hx,by simp only [Bool.false_eq_true,if_false];omega⟩
     |true=>
      obtain ⟨e1,e2⟩:=ends_eqE hn hc (by rw [hx];exact h.s.sok.1) (by omega) x 13
      obtain ⟨ds,rr,_⟩:=ends_spec hn hc hw 13
      simp only [if_true]
      exact ⟨by rw [e1];rfl,rr.c,by rw [rr.x,hx],by omega⟩
    obtain ⟨s1,s2,s3,s4⟩:=st
    refine ⟨?_,s2,s3,s4⟩
    simp only
    unfold engine_Tick_l2
    rw [if_pos (by simpa using hlt),aP hlt,(List.getElem?_eq_some_iff.1 hk).2]
    simp only [Option.bind_some]
    rw [waits_eq hc.lock.ok]
    simp only [Option.bind_some]
    rw [s1,IntWalk.i64_in _ ⟨by omega,by omega⟩]
    rfl)
  (fun r hi=>by
    simp only
    unfold engine_Tick_l2
    rw [if_neg (by simp)]) ({e with Now:=max e.Now now},[]) ⟨⟨h.c.lock,h.c.ids,h.c.pos,h.c.few,h.c.lt,h.c.wr,h.c.op⟩,rfl,by simp⟩
 have e1:=h1.1
 have e2:(tickE e now).2.length≤17*(lateM e.L (max e.Now now)).length:=h1.2.2.2
 refine ⟨?_,by omega⟩
 unfold engine_Tick
 rw [hmax,late_eq h.c.lock.ok]
 simp only [Option.bind_some]
 simp only [Int.natCast_zero,Int.ofNat_eq_natCast] at e1
 rw [e1]
 rfl
theorem tick_eqE {n:Nat} (hn:n≤1000000) {e:Engine} (h:EInv n e) (now:Int):engine_Tick e now=some ((tickE e now).1,(tickE e now).2):=(tick_all hn h now).1
theorem tick_len {n:Nat} (hn:n≤1000000) {e:Engine} (h:EInv n e) (now:Int):(tickE e now).2.length≤272:=(tick_all hn h now).2
theorem begin_eqE {n:Nat} (hn:n≤1000000) {e:Engine} (h:EInv n e) (token:Str):engine_Begin e token=some ((beginE e token).1,(beginE e token).2.1,(beginE e token).2.2):=by
 have h6:=h.c.few
 have ht:=h.s.toks
 have hx:=h.next
 have c1:(decide ((token.length:Int)<1)||decide ((token.length:Int)>16))=decide (token.length<1∨16<token.length):=by
  rw [Bool.decide_or];congr 1<;>exact decide_eq_decide.2 (by omega)
 unfold engine_Begin beginE
 rw [decided_eq h.s.sok.1]
 simp only [Option.bind_some]
 rw [begin_any (by omega),findM_has,c1]
 simp only [Option.bind_some,decide_eq_true_eq]
 split
 ·rfl
 split
 ·rfl
 split
 ·rfl
 split
 ·rfl
 rw [IntWalk.i64_in _ ⟨by omega,by omega⟩]
 by_cases a:6≤e.T.length
 ·rw [if_pos (by omega),if_pos a]
 rw [if_neg (by omega),if_neg a]
 by_cases b:64≤e.X.S.Toks.length+e.T.length
 ·rw [if_pos (by omega),if_pos b]
 rw [if_neg (by omega),if_neg b,ah (by omega),ah (by omega),IntWalk.i64_in _ ⟨by omega,by omega⟩]
theorem check_eqE {n:Nat} {e:Engine} (h:EInv n e):engine_Check e=some ((checkE e).1,(checkE e).2):=by
 obtain ⟨tl,hk⟩:=h.s.kok
 unfold engine_Check checkE
 rw [check_eqK hk.db h.s.sok.2.1 h.s.sok.2.2 hk.seg hk.run hk.from_]
 rfl
theorem new_eqE {d:Disk} (h:DB d):engine_New d=some ((newE d).1,(newE d).2):=by
 unfold engine_New newE
 rw [open_eqK h]
 simp only [Option.bind_some]
 by_cases c:(openK d).2=0
 ·rw [if_neg (by simp [c]),if_pos c]
 ·rw [if_pos (by simp [c]),if_neg c];rfl
theorem crash_eqE {n:Nat} {e:Engine} (h:EInv n e) (keeps:List Int):engine_Crash e keeps=some ((crashE e keeps).1,(crashE e keeps).2):=by
 obtain ⟨tl,hk⟩:=h.s.kok
 unfold engine_Crash crashE
 rw [crash_eq hk.db.ok]
 simp only [Option.bind_some]
 rw [new_eqE (crash_db hk.db keeps)]
 simp only [Option.bind_some]
 by_cases c:(newE (crashM e.X.D keeps)).2=0
 ·rw [if_neg (by simp [c]),if_pos c]
 ·rw [if_pos (by simp [c]),if_neg c]
theorem arm_eqE (e:Engine) (fuse:Int):engine_Arm e fuse=some (armE e fuse):=rfl
end Go.Ab
namespace Go.Ab
set_option linter.unusedVariables false
set_option linter.unusedSimpArgs false
abbrev x0:Store:=⟨kd0,1,1,0,noState,false⟩
abbrev x1:Store:=⟨kd2,1,1,0,ks,false⟩
abbrev opP:Op_:=⟨2,[97],[49],[],[],0⟩
abbrev opG:Op_:=⟨1,[97],[],[],[],0⟩
abbrev opC:Op_:=⟨5,[],[],[],[],0⟩
abbrev en0:Engine:=⟨x0,⟨[],[]⟩,[],1,0⟩
abbrev en1:Engine:=⟨x0,⟨[],[]⟩,[⟨1,[116],[],false,noOp⟩],2,0⟩
abbrev en2:Engine:=⟨x0,⟨[⟨1,wx⟩],[]⟩,[⟨1,[116],[⟨[97],[49],false⟩],false,noOp⟩],2,0⟩
abbrev en3:Engine:=⟨x1,⟨[],[]⟩,[],2,0⟩
theorem en_new:newE (newM 1000).1=(en0,0):=by
 have e:(newM 1000).1=kd0:=by decide
 unfold newE
 rw [e,kopen0]
 rfl
theorem en_begin:beginE en0 [116]=(en1,1,0):=by decide
theorem en_put:askE en1 1 opP=(en2,[saidE 1 0]):=by
 have a:askM ⟨[],[]⟩ 1 (wantM opP) (bT 0)=(⟨[⟨1,wx⟩],[]⟩,0):=by
  unfold askM
  simp only [blockM_nil]
  decide
 have e:askE en1 1 opP=locksM (en1,[]) ⟨1,[116],[],false,noOp⟩ opP:=by
  unfold askE
  rw [show en1.T.find? (idB 1)=some ⟨1,[116],[],false,noOp⟩ by decide]
  simp only
  rw [if_neg (by decide),if_neg (by decide),if_neg (by decide)]
 rw [e]
 unfold locksM
 simp only
 rw [a,if_pos rfl]
 decide
theorem en_get:askE en2 1 opG=(en2,[⟨1,0,[49],true,[],false⟩]):=by
 have a:askM ⟨[⟨1,wx⟩],[]⟩ 1 (wantM opG) (bT 0)=(⟨[⟨1,wx⟩],[]⟩,0):=by
  unfold askM
  rw [if_neg (by decide),if_neg (by decide),if_pos (by decide)]
 have e:askE en2 1 opG=locksM (en2,[]) ⟨1,[116],[⟨[97],[49],false⟩],false,noOp⟩ opG:=by
  unfold askE
  rw [show en2.T.find? (idB 1)=some ⟨1,[116],[⟨[97],[49],false⟩],false,noOp⟩ by decide]
  simp only
  rw [if_neg (by decide),if_neg (by decide),if_neg (by decide)]
 rw [e]
 unfold locksM
 simp only
 rw [a,if_pos rfl]
 decide
theorem en_commit:askE en2 1 opC=(en3,[⟨1,0,[],false,[],true⟩]):=by
 have e:askE en2 1 opC=endsM ({en2 with X:=(bK en2.X kb).1},[]) 1 (bK en2.X kb).2:=by
  unfold askE
  rw [show en2.T.find? (idB 1)=some ⟨1,[116],[⟨[97],[49],false⟩],false,noOp⟩ by decide]
  simp only
  rw [if_neg (by decide),if_neg (by decide),if_pos (by decide)]
  rfl
 rw [e,show bK en2.X kb=(x1,0) from kcommit]
 have f:bZ ⟨[⟨1,wx⟩],[]⟩ 1=(⟨[],[]⟩,[]):=by decide
 unfold endsM goesM
 simp only
 rw [f]
 decide
theorem en_inv:EInv 0 en0:=by
 obtain ⟨y,h1,h2,_⟩:=newE_inv (room:=1000) ⟨by decide,by decide⟩ (by decide)
 rw [en_new] at h1
 cases h1
 exact h2
theorem shown13:law13_shown=some true:=by
 have i0:=en_inv
 have i1:EInv 1 en1:=by have:=beginE_inv i0 [116];rw [en_begin] at this;exact this
 have i2:EInv 2 en2:=by have:=askE_inv (by decide) i1 1 (op:=opP) (by decide) (by decide) (by decide);rw [en_put] at this;exact this
 have e0:engine_New (newM 1000).1=some (en0,0):=by rw [new_eqE (new_db ⟨by decide,by decide⟩),en_new]
 have e1:engine_Begin en0 [116]=some (en1,1,0):=by rw [begin_eqE (by decide) i0,en_begin]
 have e2:engine_Ask en1 1 opP=some (en2,[saidE 1 0]):=by rw [ask_eqE (by decide) i1 1 (by decide) (by decide) (by decide),en_put]
 have e3:engine_Ask en2 1 opG=some (en2,[⟨1,0,[49],true,[],false⟩]):=by rw [ask_eqE (by decide) i2 1 (by decide) (by decide) (by decide),en_get]
 have e4:engine_Ask en2 1 opC=some (en3,[⟨1,0,[],false,[],true⟩]):=by rw [ask_eqE (by decide) i2 1 (by decide) (by decide) (by decide),en_commit]
 unfold law13_shown
 rw [rnew_eq]
 simp only [Option.bind_some]
 rw [e0]
 simp only [Option.bind_some]
 rw [e1]
 simp only [Option.bind_some]
 rw [e2]
 simp only [Option.bind_some]
 rw [e3]
 simp only [Option.bind_some]
 rw [e4]
 rfl
structure ActOk (a:Act):Prop where
 n:In64 a.N
 k:a.Op.Key.length≤2000000
 l:a.Op.Lo.length≤2000000
 h:a.Op.Hi.length≤2000000
theorem keeps_eq {e:Engine} (h:e.X.D.Files.length≤1073741824) (n:Int):law13_keeps e n=some (List.replicate e.X.D.Files.length n):=by
 have:=count_loop (fun (s1:Int×(List Int))=>law13_keeps_l2 e n s1.1 s1.2) (fun k=>((k:Int),List.replicate k n)) e.X.D.Files.length (List.replicate e.X.D.Files.length n)
  (fun k hk=>by
    simp only
    unfold law13_keeps_l2
    rw [if_pos (by simpa using hk),ah (by rw [List.length_replicate];omega),IntWalk.i64_in _ ⟨by omega,by omega⟩,←List.replicate_succ']
    rfl)
  (by
    simp only
    unfold law13_keeps_l2
    rw [if_neg (by simp)])
 unfold law13_keeps
 simp only [Int.natCast_zero,Int.ofNat_eq_natCast,List.replicate_zero] at this
 rw [this]
 rfl
def laterM (now n:Int):Int:=if n<0∨n>100∨now>4611686018427387904 then now else now+n
theorem later_eq {now:Int} (h0:0≤now) (n:Int):law13_later now n=some (laterM now n):=by
 unfold law13_later laterM
 by_cases h1:n<0∨n>100
 ·rw [if_pos (by simpa using h1),if_pos (by omega)]
 rw [if_neg (by simpa using h1)]
 by_cases h2:now>4611686018427387904
 ·rw [if_pos (by simpa using h2),if_pos (by omega)]
 ·rw [if_neg (by simpa using h2),if_neg (by omega),IntKind.wrap_u64,IntKind.wrap_u64]
  congr 1
  omega
theorem later_le {now n:Int} (h:now≤18446744073709551615):laterM now n≤18446744073709551615:=by unfold laterM;split<;>omega
theorem does_inv {n:Nat} (hn:n+1≤1000000) {e:Engine} (h:EInv n e) {a:Act} (ha:ActOk a): ∃r,law13_does e a=some r∧(EInv (n+1) r.1∨(a.Kind=6∧r.2.2.2≠0)):=by
 obtain ⟨tl,hk⟩:=h.s.kok
 unfold law13_does
 split
 ·rw [begin_eqE (by omega) h]
  exact ⟨_,rfl,.inl (beginE_inv h a.S)⟩
 split
 ·rw [ask_eqE hn h a.Txn ha.k ha.l ha.h]
  exact ⟨_,rfl,.inl (askE_inv hn h a.Txn ha.k ha.l ha.h)⟩
 split
 ·rw [leave_eqE (by omega) h]
  exact ⟨_,rfl,.inl ((leaveE_inv (by omega) h a.Txn).mono (by omega))⟩
 split
 ·rw [later_eq h.now.1]
  simp only [Option.bind_some]
  rw [tick_eqE (by omega) h]
  exact ⟨_,rfl,.inl ((tickE_spec (by omega) h (later_le h.now.2)).1.mono (by omega))⟩
 split
 ·rw [check_eqE h]
  exact ⟨_,rfl,.inl ((checkE_inv h).mono (by omega))⟩
 split
 ·rename_i c6
  rw [keeps_eq hk.db.ok.lenS]
  simp only [Option.bind_some]
  rw [crash_eqE h]
  refine ⟨_,rfl,?_⟩
  rcases crashE_spec h (List.replicate e.X.D.Files.length a.N) with ⟨_,h2⟩|⟨y,_,_,_,_,_,h2⟩
  ·exact .inr ⟨by simpa using c6,by simp only;rw [h2];decide⟩
  ·exact .inl (h2.mono (by omega))
 split
 ·rw [arm_eqE]
  exact ⟨_,rfl,.inl ((armE_inv h ha.n).mono (by omega))⟩
 ·exact ⟨_,rfl,.inl (h.mono (by omega))⟩
theorem plays_inv {room:Int} (hr:In64 room) {l:List Act} (hl: ∀a∈l,ActOk a): ∃r,law13_plays room l=some r∧(r.2=true→EInv 300 r.1):=by
 unfold law13_plays
 rw [rnew_eq]
 simp only [Option.bind_some]
 by_cases h0:room<0
 ·have e:(newM room).2=1:=by unfold newM;rw [if_pos h0]
  rw [if_pos (by simp [e])]
  exact ⟨_,rfl,fun h=>by cases h⟩
 ·have e:(newM room).2=0:=by unfold newM;rw [if_neg h0]
  obtain ⟨y,o1,o2,_⟩:=newE_inv hr (by omega)
  rw [if_neg (by simp [e]),new_eqE (new_db hr),o1]
  simp only [Option.bind_some]
  obtain ⟨r,h1,h2⟩:=rounds_loop (fun (s1:Int×Engine)=>law13_plays_l2 l ((⟨y,⟨[],[]⟩,[],1,0⟩:Engine),(0:Int)) s1.1 s1.2) (fun k s=> ∃e,s=((k:Int),e)∧EInv k e) (fun r=> ∀e,r= .inr e→EInv 300 e) 300
   (fun k s hk ⟨e,es,hi⟩=>by
     subst es
     simp only
     unfold law13_plays_l2
     by_cases c:k<l.length
     ·obtain ⟨r,k1,k2⟩:=does_inv (n:=k) (by omega) hi (hl _ (List.getElem_mem c))
      rw [if_pos (by simp;omega),aP c]
      simp only [Option.bind_some]
      rw [k1]
      simp only [Option.bind_some]
      by_cases q:r.2.2.2≠0∧l[k].Kind=6
      ·rw [if_pos (by simpa using q)]
       exact .inr ⟨_,rfl,fun e h=>by cases h⟩
      ·rw [if_neg (by simpa using q),IntWalk.i64_in _ ⟨by omega,by omega⟩]
       exact .inl ⟨_,rfl,r.1,rfl,k2.resolve_right fun ⟨a,b⟩=>q ⟨b,a⟩⟩
     ·rw [if_neg (by simp;omega)]
      exact .inr ⟨_,rfl,fun e2 h=>by cases h;exact hi.mono (by omega)⟩)
   (fun s ⟨e,es,hi⟩=>by
     subst es
     simp only
     unfold law13_plays_l2
     rw [if_neg (by simp)]
     exact ⟨_,rfl,fun e2 h=>by cases h;exact hi⟩) (s:=((0:Int),(⟨y,⟨[],[]⟩,[],1,0⟩:Engine))) ⟨_,rfl,o2⟩
  rw [h1]
  cases r with
  |inl v=>exact ⟨_,rfl,fun h=>by cases h⟩
  |inr v=>exact ⟨_,rfl,fun _=>h2 v rfl⟩
end Go.Ab
namespace Go.Ab
set_option linter.unusedVariables false
set_option linter.unusedSimpArgs false
theorem acts13_of {l:List Act} (o: ∀a∈l,okAct a) (b:sumOf (fun v=>bkAct v) l≤1048576): ∀a∈l,ActOk a:=by
 intro a ha
 have h1:=sumOf_mem (f:=fun v=>bkAct v) ha
 have oa:=o a ha
 unfold okAct at oa
 have e:bkAct a=bkAct a:=rfl
 conv at e=>rhs;unfold bkAct bkOp_
 exact ⟨oa.2.2.1,by omega,by omega,by omega⟩
theorem findT_in {T:List Txn} {id:Int} (h: ∃t∈T,t.Id=id):(findT T id).2=true:=by
 obtain ⟨t,ht,hi⟩:=h
 unfold findT
 cases hf:T.find? (idB id) with
 |none=>exact absurd (decide_eq_true hi) (List.find?_eq_none.1 hf t ht)
 |some u=>rfl
theorem queue_few {n:Nat} {e:Engine} (h:CInv n e):e.L.Queue.length≤6:=by
 have h1:(e.L.Queue.map (fun c=>c.Txn)).Nodup:=h.lock.one
 have:=nodup_len (a:=e.L.Queue.map (fun c=>c.Txn)) (u:=e.T.map (·.Id)) h1 (fun x hx=>by
  obtain ⟨c,hc,rfl⟩:=List.mem_map.1 hx
  obtain ⟨t,ht,hti⟩:=h.lt.que c hc
  rw [←hti];exact List.mem_map_of_mem (f:=(·.Id)) ht)
 simp only [List.length_map] at this
 have:=h.few
 omega
theorem law13_EngineApart_true (room:Int) (l:List Act) (orr:okK .i64 room) (ol: ∀a∈l,okAct a) (b:1+(sumOf (fun v=>bkAct v) l+1)≤1048576):law13_EngineApart room l=some true:=by
 obtain ⟨r,h1,h2⟩:=plays_inv (i64_of orr) (acts13_of ol (by omega))
 unfold law13_EngineApart
 rw [shown13,h1]
 simp only [Option.bind_some,Bool.not_true,Bool.false_or]
 cases hr:r.2 with
 |false=>rfl
 |true=>
  have h:=(h2 hr).c
  have hlen:=h.lock.len
  have h6:=h.few
  simp only [Bool.not_true,Bool.false_eq_true,if_false]
  rw [all_loop r.1.L.Held.length (.inr ()) (fun (s1:Int)=>dC r s1) (fun k hk=>by
   unfold dC
   rw [if_pos (by simpa using hk),aP hk]
   simp only [Option.bind_some]
   rw [find_eqE (by omega)]
   simp only [Option.bind_some]
   rw [findT_in (h.lt.held _ (List.getElem_mem hk)),if_neg (by simp),all_loop k (.inr ()) (fun (s1:Int)=>dB r (k:Int) r.1.L.Held[k] s1) (fun j hj=>by
    unfold dB
    rw [if_pos (by simpa using hj),aP (show j<r.1.L.Held.length by omega)]
    simp only [Option.bind_some]
    rw [rclash_eq (h.lock.ok.held _ (List.getElem_mem _)).2 (h.lock.ok.held _ (List.getElem_mem _)).2,IntWalk.i64_in _ ⟨by omega,by omega⟩]
    simp only [Option.bind_some]
    by_cases hne:r.1.L.Held[k].Txn=r.1.L.Held[j].Txn
    ·rw [if_neg (by simp [hne])];rfl
    ·rw [if_neg (by simp [h.lock.apart _ (List.getElem_mem hk) _ (List.getElem_mem (show j<r.1.L.Held.length by omega)) hne])];rfl) (by
    unfold dB
    rw [if_neg (by simp)])]
   simp only [Option.bind_some]
   rw [IntWalk.i64_in _ ⟨by omega,by omega⟩]
   rfl) (by
   unfold dC
   rw [if_neg (by simp)])]
  simp only [Option.bind_some]
  rw [all_loop r.1.T.length (.inr ()) (fun (s1:Int)=>dA r s1) (fun k hk=>by
   unfold dA
   rw [if_pos (by simpa using hk),aP hk]
   simp only [Option.bind_some]
   rw [rwaits_eq h.lock.ok,←h.lt.wait _ (List.getElem_mem hk)]
   simp only [Option.bind_some,BEq.rfl,Bool.not_true,Bool.false_eq_true,if_false]
   rw [IntWalk.i64_in _ ⟨by omega,by omega⟩]
   rfl) (by
   unfold dA
   rw [if_neg (by simp)])]
  have hq:=queue_few h
  simp only [Option.bind_some]
  rw [if_pos (by simp only [decide_eq_true_eq];omega)]
  simp only [Option.some.injEq,decide_eq_true_eq]
  omega
end Go.Ab
