/- Asks, and who is late: program and document alike (plain). and what follows it, up to: Files told by how many bear a name; a file that is laid in one step: program and document alike (plain). -/
import Derived.Test.YtgeafeohfiejcaaGreatDoorG5
import Derived.KernelRfl
import Derived.IntWalk
namespace Go.Ab
set_option linter.unusedVariables false
set_option linter.unusedSimpArgs false
def covH (l:Locks) (txn:Int) (w:Want):Bool:=l.Held.any (fun h=>decide (h.Txn=txn)&&covM h.W w)
theorem covH_eq {l:Locks} (hl:LOk l) (txn:Int) (w:Want):bF l.Held txn w=some (covH l txn w):=by
 have h2:=hl.heldL
 unfold bF cS covH
 rcases find_loop l.Held (fun h=>decide (h.Txn=txn)&&covM h.W w) (fun k=>(.inl (k:Int):Int⊕Unit)) (.inr ()) (fun (s169:Int)=>bi l.Held txn w s169) (by omega) (fun k x hk=>by
  have hlt:=(List.getElem?_eq_some_iff.1 hk).1
  unfold bi lock_Ask_1
  rw [if_pos (by simpa using hlt),aP hlt,(List.getElem?_eq_some_iff.1 hk).2,IntWalk.i64_in _ ⟨by omega,by omega⟩]
  simp only [Option.bind_some]
  rw [cov_eq]
  by_cases h:x.Txn=txn<;>cases covM x.W w<;>simp [h]) (by unfold bi;rw [if_neg (by simp)]) with ⟨k,_,h1,h2⟩|⟨h1,h2⟩
 ·rw [h1,h2];simp
 ·rw [h1,h2];simp
def askM (l:Locks) (txn:Int) (w:Want) (until_:Int):Locks×Int:=
 if txn<1∨mayM2 w=false then (l,1) else if da l txn=true then (l,8) else if covH l txn w=true then (l,0) else
 if dv l txn w l.Queue.length=[] then (⟨l.Held++[⟨txn,w⟩],l.Queue⟩,0) else if 16≤l.Queue.length then (l,11) else (⟨l.Held,l.Queue++[⟨txn,w,until_⟩]⟩,12)
theorem ask_eq {l:Locks} (hl:LOk l) (txn:Int) (w:Want) (until_:Int):lock_Ask l txn w until_=some (askM l txn w until_):=by
 have h1:=hl.heldL
 have h2:=hl.queL
 unfold lock_Ask askM
 rw [smay_eq]
 by_cases ht:txn<1
 ·rw [if_pos (by simpa using ht)];simp [ht]
 ·rw [if_neg (by simpa using ht)]
  simp only [Option.bind_some]
  cases hm:mayM2 w with
  |false=>simp
  |true=>
   rw [if_neg (show ¬(!true)=true by simp),if_neg (show ¬(txn<1∨true=false) by simp;omega),waits_eq hl]
   simp only [Option.bind_some]
   cases hw:da l txn with
   |true=>simp
   |false=>
    simp only [Bool.false_eq_true,if_false]
    rw [covH_eq hl]
    simp only [Option.bind_some]
    cases hc:covH l txn w with
    |true=>simp
    |false=>
     simp only [Bool.false_eq_true,if_false]
     rw [blockers_eq hl,Int.toNat_natCast]
     simp only [Option.bind_some]
     by_cases hb:dv l txn w l.Queue.length=[]
     ·rw [if_pos (show decide (((dv l txn w l.Queue.length).length:Int)=0)=true by simp [hb]),if_pos hb,ah (by omega),ah (by omega)]
     ·rw [if_neg (show ¬decide (((dv l txn w l.Queue.length).length:Int)=0)=true by simpa using hb),if_neg hb]
      by_cases hq:16≤l.Queue.length
      ·rw [if_pos (show decide ((l.Queue.length:Int)≥16)=true by simp;omega),if_pos hq]
      ·rw [if_neg (show ¬decide ((l.Queue.length:Int)≥16)=true by simp;omega),if_neg hq,ah (by omega),ah (by omega)]
def lateM (l:Locks) (now:Int):List Int:=l.Queue.foldl (fun out c=>if c.Until≤now then out++[c.Txn] else out) []
theorem late_eq {l:Locks} (hl:LOk l) (now:Int):lock_Late l now=some (lateM l now):=by
 have h2:=hl.queL
 have h1:=fold_loop (ρ:=List Int) l.Queue (fun k (ks:List Int)=>((k:Int),ks)) (fun (s150:Int×(List Int))=>lock_Late_l2 l now s150.1 s150.2) (fun out c=>if c.Until≤now then out++[c.Txn] else out) (fun ks=>ks) (fun k ks=>ks.length≤k)
  (fun k x ks hk hi=>by
    have hlt:=(List.getElem?_eq_some_iff.1 hk).1
    refine ⟨?_,by split
                  ·simp only [List.length_append,List.length_cons,List.length_nil];omega
                  ·omega⟩
    simp only
    unfold lock_Late_l2
    rw [if_pos (by simpa using hlt),aP hlt,(List.getElem?_eq_some_iff.1 hk).2,IntWalk.i64_in _ ⟨by omega,by omega⟩]
    by_cases h:x.Until≤now
    ·simp only [Option.bind_some]
     rw [if_pos (by simpa using h),if_pos h,ah (by omega)];rfl
    ·simp only [Option.bind_some]
     rw [if_neg (by simpa using h),if_neg h];rfl)
  (fun ks _=>by
    simp only
    unfold lock_Late_l2
    rw [if_neg (by simp)]) [] (by simp)
 have e1:loop (fun (s150:Int×(List Int))=>lock_Late_l2 l now s150.1 s150.2) ((0:Int),([]:List Int))=some (lateM l now):=h1.1
 unfold lock_Late
 rw [e1];rfl
end Go.Ab
namespace Go.Ab
set_option linter.unusedVariables false
set_option linter.unusedSimpArgs false
end Go.Ab
namespace Go.Ab
set_option linter.unusedVariables false
set_option linter.unusedSimpArgs false
def notH (v:Int) (h:Hold):Bool:= !decide (h.Txn=v)
theorem delH_eq {l:List Hold} (hl:l.length≤2000000) (v:Int):bQ l v=some (l.filter (fun h=> !decide (h.Txn=v))):=by
 unfold bQ cB
 rcases find_first l (fun h=>decide (h.Txn=v)) (fun k=>(.inl (k:Int):Int⊕Unit)) (.inr ()) (fun (s169:Int)=>bd l v s169) (fun k x hk=>by
  have hlt:=(List.getElem?_eq_some_iff.1 hk).1
  unfold bd lock_Free_1
  rw [if_pos (by simpa using hlt),aP hlt,(List.getElem?_eq_some_iff.1 hk).2,IntWalk.i64_in _ ⟨by omega,by omega⟩]
  by_cases h:x.Txn=v<;>simp [h]) (by unfold bd;rw [if_neg (by simp)]) with ⟨k,x,hk,h1,h2,h3⟩|⟨h1,h3⟩
 ·have hlt:=(List.getElem?_eq_some_iff.1 hk).1
  have hx:=(List.getElem?_eq_some_iff.1 hk).2
  rw [h1]
  simp only [Option.bind_some]
  rw [if_neg (by first|(simp;done)|(simp;omega)),IntWalk.i64_in _ ⟨by omega,by omega⟩]
  obtain ⟨i2,a2,e1,e2,e3,e4⟩:=del_loop l (fun h=>decide (h.Txn=v)) (fun (s343:Int×Int×(List Hold))=>aZ v s343.1 s343.2.1 s343.2.2)
   (fun i j a x hij ha hx=>by
     have hlt:=(List.getElem?_eq_some_iff.1 hx).1
     simp only
     unfold aZ lock_Free_1
     rw [if_pos (by simpa using hlt),aP hlt,(List.getElem?_eq_some_iff.1 hx).2,IntWalk.i64_in ((j:Int)+1) ⟨by omega,by omega⟩,IntWalk.i64_in ((i:Int)+1) ⟨by omega,by omega⟩,aP (show i<a.length by omega)]
     by_cases h:x.Txn=v<;>simp [h])
   (fun i a ha=>by
     simp only
     unfold aZ
     rw [if_neg (by simp;omega)])
   (l.length - (k+1)) k (k+1) l (by omega) (by omega) rfl rfl (by
     rw [List.take_succ_eq_append_getElem hlt,List.filter_append,hx]
     have hf:(l.take k).filter (fun h=> !decide (h.Txn=v))=l.take k:=List.filter_eq_self.2 (fun y hy=>by have:=h3 y hy;simp at this;simp [this])
     have h2':x.Txn=v:=by simpa using h2
     rw [hf];simp [List.filter_cons,h2'])
  rw [show ((k:Int)+1)=((k+1:Nat):Int) from rfl,e1]
  simp only [Option.bind_some]
  have hn:(((List.map ay a2).length:Nat):Int).toNat=a2.length:=by simp
  rw [ah (by omega),ah (by omega),ah (by simp only [List.length_append,List.length_take,List.length_drop,List.length_replicate,hn];omega),ah (by simp only [List.length_append,List.length_take,List.length_drop,List.length_replicate,hn,Int.toNat_natCast];omega)]
  rw [Int.toNat_natCast]
  exact congrArg some ((del_end a2 _ _ i2 (by omega)).trans e4)
 ·rw [h1]
  simp only [Option.bind_some]
  rw [if_pos (by decide)]
  congr 1
  exact (List.filter_eq_self.2 (fun y hy=>by have:=h3 y hy;simp at this;simp [this])).symm
theorem delC_eq {l:List Claim} (hl:l.length≤2000000) (v:Int):bC l v=some (l.filter (fun h=> !decide (h.Txn=v))):=by
 unfold bC cx
 rcases find_first l (fun h=>decide (h.Txn=v)) (fun k=>(.inl (k:Int):Int⊕Unit)) (.inr ()) (fun (s169:Int)=>aY l v s169) (fun k x hk=>by
  have hlt:=(List.getElem?_eq_some_iff.1 hk).1
  unfold aY lock_Free_2
  rw [if_pos (by simpa using hlt),aP hlt,(List.getElem?_eq_some_iff.1 hk).2,IntWalk.i64_in _ ⟨by omega,by omega⟩]
  by_cases h:x.Txn=v<;>simp [h]) (by unfold aY;rw [if_neg (by simp)]) with ⟨k,x,hk,h1,h2,h3⟩|⟨h1,h3⟩
 ·have hlt:=(List.getElem?_eq_some_iff.1 hk).1
  have hx:=(List.getElem?_eq_some_iff.1 hk).2
  rw [h1]
  simp only [Option.bind_some]
  rw [if_neg (by first|(simp;done)|(simp;omega)),IntWalk.i64_in _ ⟨by omega,by omega⟩]
  obtain ⟨i2,a2,e1,e2,e3,e4⟩:=del_loop l (fun h=>decide (h.Txn=v)) (fun (s343:Int×Int×(List Claim))=>aV v s343.1 s343.2.1 s343.2.2)
   (fun i j a x hij ha hx=>by
     have hlt:=(List.getElem?_eq_some_iff.1 hx).1
     simp only
     unfold aV lock_Free_2
     rw [if_pos (by simpa using hlt),aP hlt,(List.getElem?_eq_some_iff.1 hx).2,IntWalk.i64_in ((j:Int)+1) ⟨by omega,by omega⟩,IntWalk.i64_in ((i:Int)+1) ⟨by omega,by omega⟩,aP (show i<a.length by omega)]
     by_cases h:x.Txn=v<;>simp [h])
   (fun i a ha=>by
     simp only
     unfold aV
     rw [if_neg (by simp;omega)])
   (l.length - (k+1)) k (k+1) l (by omega) (by omega) rfl rfl (by
     rw [List.take_succ_eq_append_getElem hlt,List.filter_append,hx]
     have hf:(l.take k).filter (fun h=> !decide (h.Txn=v))=l.take k:=List.filter_eq_self.2 (fun y hy=>by have:=h3 y hy;simp at this;simp [this])
     have h2':x.Txn=v:=by simpa using h2
     rw [hf];simp [List.filter_cons,h2'])
  rw [show ((k:Int)+1)=((k+1:Nat):Int) from rfl,e1]
  simp only [Option.bind_some]
  have hn:(((List.map an a2).length:Nat):Int).toNat=a2.length:=by simp
  rw [ah (by omega),ah (by omega),ah (by simp only [List.length_append,List.length_take,List.length_drop,List.length_replicate,hn];omega),ah (by simp only [List.length_append,List.length_take,List.length_drop,List.length_replicate,hn,Int.toNat_natCast];omega)]
  rw [Int.toNat_natCast]
  exact congrArg some ((del_end a2 _ _ i2 (by omega)).trans e4)
 ·rw [h1]
  simp only [Option.bind_some]
  rw [if_pos (by decide)]
  congr 1
  exact (List.filter_eq_self.2 (fun y hy=>by have:=h3 y hy;simp at this;simp [this])).symm
end Go.Ab
namespace Go.Ab
set_option linter.unusedVariables false
set_option linter.unusedSimpArgs false
def freeI (l:Locks) (k:Nat):Bool:=match l.Queue[k]? with|some c=>decide (dv l c.Txn c.W k=[])|none=>false
def claimAt (l:Locks) (k:Nat):Claim:=l.Queue.getD k default
def grantM (l:Locks) (k:Nat):Locks:=⟨l.Held++[⟨(claimAt l k).Txn,(claimAt l k).W⟩],l.Queue.take k++l.Queue.drop (k+1)⟩
def cY:Nat→Locks→List Int→Locks×List Int
 |0,l,out=>(l,out)
 |n+1,l,out=>match (List.range l.Queue.length).find? (freeI l) with
  |none=>(l,out)
  |some k=>cY n (grantM l k) (out++[(claimAt l k).Txn])
def settleM (l:Locks):Locks×List Int:=cY (l.Queue.length+1) l []
theorem grant_ok {l:Locks} (hl:LOk l) {k:Nat} (hk:k<l.Queue.length) (hb:l.Held.length+l.Queue.length≤2000000):LOk (grantM l k)∧(grantM l k).Held.length+(grantM l k).Queue.length=l.Held.length+l.Queue.length∧(grantM l k).Queue.length+1=l.Queue.length:=by
 have hq:(l.Queue.take k++l.Queue.drop (k+1)).length+1=l.Queue.length:=by rw [List.length_append,List.length_take,List.length_drop];omega
 have hc:claimAt l k∈l.Queue:=by unfold claimAt;rw [List.getD_eq_getElem?_getD,List.getElem?_eq_getElem hk];exact List.getElem_mem hk
 unfold grantM
 refine ⟨⟨by simp only [List.length_append,List.length_cons,List.length_nil];omega,by simp only;omega,fun h hm=> ?_,fun c hm=> ?_⟩,?_,hq⟩
 ·rcases List.mem_append.1 hm with hm|hm
  ·exact hl.held h hm
  ·simp at hm;subst hm;exact hl.que _ hc
 ·rcases List.mem_append.1 hm with hm|hm
  ·exact hl.que c (List.mem_of_mem_take hm)
  ·exact hl.que c (List.mem_of_mem_drop hm)
 ·simp only [List.length_append,List.length_cons,List.length_nil] at hq⊢;omega
theorem range_at {n k x:Nat} (h:(List.range n)[k]? =some x):k=x∧k<n:=by
 rw [List.getElem?_eq_some_iff] at h
 obtain ⟨h1,h2⟩:=h
 simp at h1 h2
 exact ⟨h2,h1⟩
theorem first_range {n:Nat} {q:Nat→Bool} {k x:Nat} (h:(List.range n)[k]? =some x) (hq:q x=true) (hb: ∀y∈(List.range n).take k,q y=false):(List.range n).find? q=some x:=by
 obtain ⟨rfl,hk⟩:=range_at h
 rw [List.find?_eq_some_iff_append]
 refine ⟨hq,(List.range n).take k,(List.range n).drop (k+1),?_,fun y hy=>by simp [hb y hy]⟩
 have e:=List.take_append_drop k (List.range n)
 rw [List.drop_eq_getElem_cons (by simpa using hk)] at e
 simpa using e.symm
theorem claim_at {l:Locks} {k:Nat} (hk:k<l.Queue.length):claimAt l k=l.Queue[k]:=by unfold claimAt;rw [List.getD_eq_getElem?_getD,List.getElem?_eq_getElem hk];rfl
theorem freeI_at {l:Locks} {k:Nat} (hk:k<l.Queue.length):freeI l k=decide (dv l l.Queue[k].Txn l.Queue[k].W k=[]):=by unfold freeI;rw [List.getElem?_eq_getElem hk]
theorem settle_in {l:Locks} (hl:LOk l) (out:List Int) (ho:out.length≤2000000):loop (fun (s1125:Int)=>lock_Settle_l9 l.Held l.Queue out s1125) (0:Int)=
 some (match (List.range l.Queue.length).find? (freeI l) with|none=>(.inr ():(List Hold×List Claim×List Int)⊕Unit)|some k=>.inl ((grantM l k).Held,(grantM l k).Queue,out++[(claimAt l k).Txn])):=by
 have hh:=hl.heldL
 have hq:=hl.queL
 rcases find_first (List.range l.Queue.length) (freeI l) (fun k=>(.inl ((grantM l k).Held,(grantM l k).Queue,out++[(claimAt l k).Txn]):(List Hold×List Claim×List Int)⊕Unit)) (.inr ()) (fun (s1125:Int)=>lock_Settle_l9 l.Held l.Queue out s1125) (fun k x hk=>by
  obtain ⟨rfl,hlt⟩:=range_at hk
  unfold lock_Settle_l9
  rw [if_pos (show decide ((k:Int)<(l.Queue.length:Int))=true by simpa using hlt),aP hlt]
  simp only [Option.bind_some]
  rw [show lock_Blockers ({Held:=l.Held,Queue:=l.Queue}:Locks) l.Queue[k].Txn l.Queue[k].W (k:Int)=some (dv l l.Queue[k].Txn l.Queue[k].W k) from blockers_eq hl _ _ _,freeI_at hlt]
  simp only [Option.bind_some]
  rw [IntWalk.i64_in _ ⟨by omega,by omega⟩]
  by_cases hb:dv l l.Queue[k].Txn l.Queue[k].W k=[]
  ·rw [if_neg (show ¬decide (((dv l l.Queue[k].Txn l.Queue[k].W k).length:Int)>0)=true by simp [hb]),if_pos (show decide (dv l l.Queue[k].Txn l.Queue[k].W k=[])=true by simp [hb]),
    ah (by omega),ah (by omega),ah (by omega),ah (by omega),ah (by omega)]
   unfold grantM
   rw [claim_at hlt,show ((k:Int)+1)=((k+1:Nat):Int) from rfl,Int.toNat_natCast,Int.toNat_natCast]
  ·have hp:0<(dv l l.Queue[k].Txn l.Queue[k].W k).length:=List.length_pos_iff.2 hb
   rw [if_pos (show decide (((dv l l.Queue[k].Txn l.Queue[k].W k).length:Int)>0)=true by simp;omega),if_neg (show ¬decide (dv l l.Queue[k].Txn l.Queue[k].W k=[])=true by simp [hb])]
   rfl) (by
  rw [List.length_range]
  unfold lock_Settle_l9
  rw [if_neg (by simp)]) with ⟨k,x,hk,h1,h2,h3⟩|⟨h1,h3⟩
 ·have e:=first_range hk h2 h3
  obtain ⟨rfl,_⟩:=range_at hk
  rw [h1,e]
 ·rw [h1,List.find?_eq_none.2 (fun y hy=>by simp [h3 y hy])]
theorem settle_loop (n:Nat): ∀(l:Locks) (out:List Int),l.Queue.length<n→LOk l→l.Held.length+l.Queue.length≤2000000→out.length+l.Queue.length≤2000000→
 loop (fun (s886:(List Hold)×(List Claim)×(List Int))=>lock_Settle_l7 s886.1 s886.2.1 s886.2.2) (l.Held,l.Queue,out)=some ((cY n l out).1.Held,(cY n l out).1.Queue,(cY n l out).2):=by
 induction n with
 |zero=>intro l out h;omega
 |succ n ih=>
  intro l out h hl hb ho
  have hi:=settle_in hl out (by omega)
  unfold cY
  cases hf:(List.range l.Queue.length).find? (freeI l) with
  |none=>
   rw [hf] at hi
   refine aF ?_
   simp only
   unfold lock_Settle_l7
   rw [hi]
   rfl
  |some k=>
   rw [hf] at hi
   have hk:k<l.Queue.length:=by have:=List.mem_of_find?_eq_some hf;simpa using this
   obtain ⟨g1,g2,g3⟩:=grant_ok hl hk hb
   rw [bz (s':=((grantM l k).Held,(grantM l k).Queue,out++[(claimAt l k).Txn]))]
   ·exact ih _ _ (by omega) g1 (by omega) (by simp only [List.length_append,List.length_cons,List.length_nil];omega)
   ·simp only
    unfold lock_Settle_l7
    rw [hi]
    rfl
theorem settle_eq {l:Locks} (hl:LOk l) (hb:l.Held.length+l.Queue.length≤2000000):lock_Settle l=some (settleM l):=by
 have:=settle_loop (l.Queue.length+1) l [] (by omega) hl hb (by simp;omega)
 unfold lock_Settle settleM
 rw [this]
 rfl
end Go.Ab
namespace Go.Ab
set_option linter.unusedVariables false
set_option linter.unusedSimpArgs false
def lessL (l:Locks) (v:Int):Locks:=⟨l.Held.filter (fun h=> !decide (h.Txn=v)),l.Queue.filter (fun h=> !decide (h.Txn=v))⟩
def bZ (l:Locks) (v:Int):Locks×List Int:=settleM (lessL l v)
theorem less_ok2 {l:Locks} (hl:LOk l) (v:Int):LOk (lessL l v)∧(lessL l v).Held.length≤l.Held.length∧(lessL l v).Queue.length≤l.Queue.length:=by
 have h1:=List.length_filter_le (fun h:Hold=> !decide (h.Txn=v)) l.Held
 have h2:=List.length_filter_le (fun h:Claim=> !decide (h.Txn=v)) l.Queue
 have h3:=hl.heldL
 have h4:=hl.queL
 exact ⟨⟨by unfold lessL;simp only;omega,by unfold lessL;simp only;omega,fun h hm=>hl.held h (List.mem_filter.1 hm).1,fun c hm=>hl.que c (List.mem_filter.1 hm).1⟩,h1,h2⟩
theorem free_eq {l:Locks} (hl:LOk l) (hb:l.Held.length+l.Queue.length≤2000000) (v:Int):lock_Free l v=some (bZ l v):=by
 have h1:=hl.heldL
 have h2:=hl.queL
 obtain ⟨k1,k2,k3⟩:=less_ok2 hl v
 unfold lock_Free bZ
 rw [ah (by omega),delH_eq h1]
 simp only [Option.bind_some]
 rw [ah (by omega),delC_eq h2]
 simp only [Option.bind_some]
 have hsz:(lessL l v).Held.length+(lessL l v).Queue.length≤2000000:=by omega
 rw [show lock_Settle ({Held:=l.Held.filter (fun h=> !decide (h.Txn=v)),Queue:=l.Queue.filter (fun h=> !decide (h.Txn=v))}:Locks)=some (settleM (lessL l v)) from settle_eq k1 hsz]
 rfl
end Go.Ab
namespace Go.Ab
set_option linter.unusedVariables false
set_option linter.unusedSimpArgs false
theorem blockM_nil (l:Locks) (t:Int) (w:Want) (n:Nat):dv l t w n=[]↔blockS l t w n=[]:=by
 unfold dv
 constructor
 ·intro h
  have:=congrArg List.length h
  rw [List.length_mergeSort] at this
  exact List.length_eq_zero_iff.1 this
 ·intro h;rw [h];simp
def wx:Want:=⟨2,[97],[97,0]⟩
def ws:Want:=⟨1,[97],[97,0]⟩
end Go.Ab
namespace Go.Ab
set_option linter.unusedVariables false
set_option linter.unusedSimpArgs false
theorem settleF_ok (n:Nat): ∀(l:Locks) (out:List Int),LOk l→l.Held.length+l.Queue.length≤2000000→LOk (cY n l out).1:=by
 induction n with
 |zero=>intro l out h _;exact h
 |succ n ih=>
  intro l out h hb
  unfold cY
  cases hf:(List.range l.Queue.length).find? (freeI l) with
  |none=>exact h
  |some k=>
   have hk:k<l.Queue.length:=by have:=List.mem_of_find?_eq_some hf;simpa using this
   obtain ⟨g1,g2,g3⟩:=grant_ok h hk hb
   exact ih _ _ g1 (by omega)
end Go.Ab
namespace Go.Ab
open Go.Proofs
set_option linter.unusedVariables false
set_option maxRecDepth 100000
theorem rd3 {H:Type} {enc:TypeId×Value→H} {w:World} {spare:Nat→Bool} {held:Bool} {fuel:Nat} {cs:List Value} {x:DataW H×List MemPlace} (h:DataW.trod enc Tryz.prog w 0 spare held fuel 3 cs=some x): ∃v:Int,ci w cs [vI v]∧(okK .i64 v)∧1≤co x.1:=by
 exact rd_int Tryz.underlying3 h
theorem cells3:Tryz.prog.cellsOf 3=1:=by kernel_rfl
theorem rd9 {H:Type} {enc:TypeId×Value→H} {w:World} {spare:Nat→Bool} {held:Bool} {fuel:Nat} {cs:List Value} {x:DataW H×List MemPlace} (h:DataW.trod enc Tryz.prog w 0 spare held fuel 9 cs=some x): ∃v:Str,ci w cs [vS v]∧(True)∧(v.length+1)≤co x.1:=by
 obtain ⟨v,h1,h2⟩:=rd_str Tryz.underlying9 h
 exact ⟨v,h1,trivial,h2⟩
theorem cells9:Tryz.prog.cellsOf 9=1:=by kernel_rfl
def okOp_ (x:Op_):Prop:=(okK .i64 x.Kind)∧(okK .i64 x.Most)
def bkOp_ (x:Op_):Nat:=1+(x.Key.length+1)+(x.Val.length+1)+(x.Lo.length+1)+(x.Hi.length+1)+1+1
theorem cells44:Tryz.prog.cellsOf 44=6:=by kernel_rfl
theorem rd44 {H:Type} {enc:TypeId×Value→H} {w:World} {spare:Nat→Bool} {held:Bool} {fuel:Nat} {cs:List Value} {x:DataW H×List MemPlace} (h:DataW.trod enc Tryz.prog w 0 spare held fuel 44 cs=some x): ∃v:Op_,ci w cs (encOp_ v)∧(okOp_ v)∧bkOp_ v≤co x.1:=by
 obtain ⟨xs,n,hb,hc,hx,hf⟩:=fields_of Tryz.underlying44 h
 rw [cells44] at hc
 obtain ⟨y0,y1,y2,y3,y4,y5,rfl⟩: ∃y0 y1 y2 y3 y4 y5,xs=[y0,y1,y2,y3,y4,y5]:=by
  match xs,hx with
  |[y0,y1,y2,y3,y4,y5],_=>exact ⟨_,_,_,_,_,_,rfl⟩
 have f0:DataW.trod enc Tryz.prog w 0 spare held n 3 ((cs.drop 0).take (Tryz.prog.cellsOf 3))=some y0:=hf 0 _ rfl
 rw [cells3] at f0
 obtain ⟨v0,r0,o0,b0⟩:=rd3 f0
 have f1:DataW.trod enc Tryz.prog w 0 spare held n 9 ((cs.drop 1).take (Tryz.prog.cellsOf 9))=some y1:=hf 1 _ rfl
 rw [cells9] at f1
 obtain ⟨v1,r1,o1,b1⟩:=rd9 f1
 have f2:DataW.trod enc Tryz.prog w 0 spare held n 9 ((cs.drop 2).take (Tryz.prog.cellsOf 9))=some y2:=hf 2 _ rfl
 rw [cells9] at f2
 obtain ⟨v2,r2,o2,b2⟩:=rd9 f2
 have f3:DataW.trod enc Tryz.prog w 0 spare held n 9 ((cs.drop 3).take (Tryz.prog.cellsOf 9))=some y3:=hf 3 _ rfl
 rw [cells9] at f3
 obtain ⟨v3,r3,o3,b3⟩:=rd9 f3
 have f4:DataW.trod enc Tryz.prog w 0 spare held n 9 ((cs.drop 4).take (Tryz.prog.cellsOf 9))=some y4:=hf 4 _ rfl
 rw [cells9] at f4
 obtain ⟨v4,r4,o4,b4⟩:=rd9 f4
 have f5:DataW.trod enc Tryz.prog w 0 spare held n 3 ((cs.drop 5).take (Tryz.prog.cellsOf 3))=some y5:=hf 5 _ rfl
 rw [cells3] at f5
 obtain ⟨v5,r5,o5,b5⟩:=rd3 f5
 have z:=ci.nil (w:=w) (cs:=cs)
 rw [hc] at z
 have g:=(ci.app (o:=0) (k:=1) rfl r0 (ci.app (o:=1) (k:=1) rfl r1 (ci.app (o:=2) (k:=1) rfl r2 (ci.app (o:=3) (k:=1) rfl r3 (ci.app (o:=4) (k:=1) rfl r4 (ci.app (o:=5) (k:=1) rfl r5 z))))))
 refine ⟨⟨v0,v1,v2,v3,v4,v5⟩,g,⟨o0,o5⟩,?_⟩
 simp only [List.map,bU] at hb
 unfold bkOp_
 try dsimp only
 omega
def okAct (x:Act):Prop:=(okK .i64 x.Kind)∧(okK .i64 x.Txn)∧(okK .i64 x.N)∧(okOp_ x.Op)
def bkAct (x:Act):Nat:=1+1+1+(x.S.length+1)+bkOp_ x.Op+1
theorem cells88:Tryz.prog.cellsOf 88=10:=by kernel_rfl
theorem rd88 {H:Type} {enc:TypeId×Value→H} {w:World} {spare:Nat→Bool} {held:Bool} {fuel:Nat} {cs:List Value} {x:DataW H×List MemPlace} (h:DataW.trod enc Tryz.prog w 0 spare held fuel 88 cs=some x): ∃v:Act,ci w cs (encAct v)∧(okAct v)∧bkAct v≤co x.1:=by
 obtain ⟨xs,n,hb,hc,hx,hf⟩:=fields_of Tryz.underlying88 h
 rw [cells88] at hc
 obtain ⟨y0,y1,y2,y3,y4,rfl⟩: ∃y0 y1 y2 y3 y4,xs=[y0,y1,y2,y3,y4]:=by
  match xs,hx with
  |[y0,y1,y2,y3,y4],_=>exact ⟨_,_,_,_,_,rfl⟩
 have f0:DataW.trod enc Tryz.prog w 0 spare held n 3 ((cs.drop 0).take (Tryz.prog.cellsOf 3))=some y0:=hf 0 _ rfl
 rw [cells3] at f0
 obtain ⟨v0,r0,o0,b0⟩:=rd3 f0
 have f1:DataW.trod enc Tryz.prog w 0 spare held n 3 ((cs.drop 1).take (Tryz.prog.cellsOf 3))=some y1:=hf 1 _ rfl
 rw [cells3] at f1
 obtain ⟨v1,r1,o1,b1⟩:=rd3 f1
 have f2:DataW.trod enc Tryz.prog w 0 spare held n 3 ((cs.drop 2).take (Tryz.prog.cellsOf 3))=some y2:=hf 2 _ rfl
 rw [cells3] at f2
 obtain ⟨v2,r2,o2,b2⟩:=rd3 f2
 have f3:DataW.trod enc Tryz.prog w 0 spare held n 9 ((cs.drop 3).take (Tryz.prog.cellsOf 9))=some y3:=hf 3 _ rfl
 rw [cells9] at f3
 obtain ⟨v3,r3,o3,b3⟩:=rd9 f3
 have f4:DataW.trod enc Tryz.prog w 0 spare held n 44 ((cs.drop 4).take (Tryz.prog.cellsOf 44))=some y4:=hf 4 _ rfl
 rw [cells44] at f4
 obtain ⟨v4,r4,o4,b4⟩:=rd44 f4
 have z:=ci.nil (w:=w) (cs:=cs)
 rw [hc] at z
 have g:=(ci.app (o:=0) (k:=1) rfl r0 (ci.app (o:=1) (k:=1) rfl r1 (ci.app (o:=2) (k:=1) rfl r2 (ci.app (o:=3) (k:=1) rfl r3 (ci.app (o:=4) (k:=6) rfl r4 z)))))
 refine ⟨⟨v0,v1,v2,v3,v4⟩,g,⟨o0,o1,o2,o4⟩,?_⟩
 simp only [List.map,bU] at hb
 unfold bkAct
 try dsimp only
 omega
theorem rd22 {H:Type} {enc:TypeId×Value→H} {w:World} {spare:Nat→Bool} {held:Bool} {fuel:Nat} {cs:List Value} {x:DataW H×List MemPlace} (h:DataW.trod enc Tryz.prog w 0 spare held fuel 22 cs=some x): ∃v:(List Act),ci w cs [sL encAct v]∧(∀u1∈v,okAct u1)∧(sumOf (fun u2=>bkAct u2) v+1)≤co x.1:=by
 obtain ⟨v,h1,h2,h3⟩:=rd_slice (encα:=encAct) (ok:=fun v=>okAct v) (bk:=fun v=>bkAct v) Tryz.underlying22 cells88 (by decide) (fun _=>rfl) (fun _=>rfl) (fun fuel cs x h=>rd88 h) h
 exact ⟨v,h1,h2,h3⟩
theorem cells22:Tryz.prog.cellsOf 22=1:=by kernel_rfl
def okEngineReadsIn (x:EngineReadsIn):Prop:=(okK .i64 x.Room)∧(∀u5∈x.L,okAct u5)∧(okK .i64 x.Txn)
def bkEngineReadsIn (x:EngineReadsIn):Nat:=1+(sumOf (fun u6=>bkAct u6) x.L+1)+1+(x.Key.length+1)+1
theorem cells57:Tryz.prog.cellsOf 57=4:=by kernel_rfl
theorem rd57 {H:Type} {enc:TypeId×Value→H} {w:World} {spare:Nat→Bool} {held:Bool} {fuel:Nat} {cs:List Value} {x:DataW H×List MemPlace} (h:DataW.trod enc Tryz.prog w 0 spare held fuel 57 cs=some x): ∃v:EngineReadsIn,ci w cs (encEngineReadsIn v)∧(okEngineReadsIn v)∧bkEngineReadsIn v≤co x.1:=by
 obtain ⟨xs,n,hb,hc,hx,hf⟩:=fields_of Tryz.underlying57 h
 rw [cells57] at hc
 obtain ⟨y0,y1,y2,y3,rfl⟩: ∃y0 y1 y2 y3,xs=[y0,y1,y2,y3]:=by
  match xs,hx with
  |[y0,y1,y2,y3],_=>exact ⟨_,_,_,_,rfl⟩
 have f0:DataW.trod enc Tryz.prog w 0 spare held n 3 ((cs.drop 0).take (Tryz.prog.cellsOf 3))=some y0:=hf 0 _ rfl
 rw [cells3] at f0
 obtain ⟨v0,r0,o0,b0⟩:=rd3 f0
 have f1:DataW.trod enc Tryz.prog w 0 spare held n 22 ((cs.drop 1).take (Tryz.prog.cellsOf 22))=some y1:=hf 1 _ rfl
 rw [cells22] at f1
 obtain ⟨v1,r1,o1,b1⟩:=rd22 f1
 have f2:DataW.trod enc Tryz.prog w 0 spare held n 3 ((cs.drop 2).take (Tryz.prog.cellsOf 3))=some y2:=hf 2 _ rfl
 rw [cells3] at f2
 obtain ⟨v2,r2,o2,b2⟩:=rd3 f2
 have f3:DataW.trod enc Tryz.prog w 0 spare held n 9 ((cs.drop 3).take (Tryz.prog.cellsOf 9))=some y3:=hf 3 _ rfl
 rw [cells9] at f3
 obtain ⟨v3,r3,o3,b3⟩:=rd9 f3
 have z:=ci.nil (w:=w) (cs:=cs)
 rw [hc] at z
 have g:=(ci.app (o:=0) (k:=1) rfl r0 (ci.app (o:=1) (k:=1) rfl r1 (ci.app (o:=2) (k:=1) rfl r2 (ci.app (o:=3) (k:=1) rfl r3 z))))
 refine ⟨⟨v0,v1,v2,v3⟩,g,⟨o0,o1,o2⟩,?_⟩
 simp only [List.map,bU] at hb
 unfold bkEngineReadsIn
 try dsimp only
 omega
def okEngineOwnIn (x:EngineOwnIn):Prop:=(okK .i64 x.Room)∧(∀u10∈x.L,okAct u10)∧(okK .i64 x.Txn)∧(okOp_ x.Op)∧(okK .i64 x.Other)
def bkEngineOwnIn (x:EngineOwnIn):Nat:=1+(sumOf (fun u11=>bkAct u11) x.L+1)+1+bkOp_ x.Op+1+1
theorem cells74:Tryz.prog.cellsOf 74=10:=by kernel_rfl
theorem rd74 {H:Type} {enc:TypeId×Value→H} {w:World} {spare:Nat→Bool} {held:Bool} {fuel:Nat} {cs:List Value} {x:DataW H×List MemPlace} (h:DataW.trod enc Tryz.prog w 0 spare held fuel 74 cs=some x): ∃v:EngineOwnIn,ci w cs (encEngineOwnIn v)∧(okEngineOwnIn v)∧bkEngineOwnIn v≤co x.1:=by
 obtain ⟨xs,n,hb,hc,hx,hf⟩:=fields_of Tryz.underlying74 h
 rw [cells74] at hc
 obtain ⟨y0,y1,y2,y3,y4,rfl⟩: ∃y0 y1 y2 y3 y4,xs=[y0,y1,y2,y3,y4]:=by
  match xs,hx with
  |[y0,y1,y2,y3,y4],_=>exact ⟨_,_,_,_,_,rfl⟩
 have f0:DataW.trod enc Tryz.prog w 0 spare held n 3 ((cs.drop 0).take (Tryz.prog.cellsOf 3))=some y0:=hf 0 _ rfl
 rw [cells3] at f0
 obtain ⟨v0,r0,o0,b0⟩:=rd3 f0
 have f1:DataW.trod enc Tryz.prog w 0 spare held n 22 ((cs.drop 1).take (Tryz.prog.cellsOf 22))=some y1:=hf 1 _ rfl
 rw [cells22] at f1
 obtain ⟨v1,r1,o1,b1⟩:=rd22 f1
 have f2:DataW.trod enc Tryz.prog w 0 spare held n 3 ((cs.drop 2).take (Tryz.prog.cellsOf 3))=some y2:=hf 2 _ rfl
 rw [cells3] at f2
 obtain ⟨v2,r2,o2,b2⟩:=rd3 f2
 have f3:DataW.trod enc Tryz.prog w 0 spare held n 44 ((cs.drop 3).take (Tryz.prog.cellsOf 44))=some y3:=hf 3 _ rfl
 rw [cells44] at f3
 obtain ⟨v3,r3,o3,b3⟩:=rd44 f3
 have f4:DataW.trod enc Tryz.prog w 0 spare held n 3 ((cs.drop 9).take (Tryz.prog.cellsOf 3))=some y4:=hf 4 _ rfl
 rw [cells3] at f4
 obtain ⟨v4,r4,o4,b4⟩:=rd3 f4
 have z:=ci.nil (w:=w) (cs:=cs)
 rw [hc] at z
 have g:=(ci.app (o:=0) (k:=1) rfl r0 (ci.app (o:=1) (k:=1) rfl r1 (ci.app (o:=2) (k:=1) rfl r2 (ci.app (o:=3) (k:=6) rfl r3 (ci.app (o:=9) (k:=1) rfl r4 z)))))
 refine ⟨⟨v0,v1,v2,v3,v4⟩,g,⟨o0,o1,o2,o3,o4⟩,?_⟩
 simp only [List.map,bU] at hb
 unfold bkEngineOwnIn
 try dsimp only
 omega
def okEngineAskedIn (x:EngineAskedIn):Prop:=(okK .i64 x.Room)∧(∀u14∈x.L,okAct u14)∧(okK .i64 x.Txn)∧(okOp_ x.Op)
def bkEngineAskedIn (x:EngineAskedIn):Nat:=1+(sumOf (fun u15=>bkAct u15) x.L+1)+1+bkOp_ x.Op+1
theorem cells78:Tryz.prog.cellsOf 78=9:=by kernel_rfl
theorem rd78 {H:Type} {enc:TypeId×Value→H} {w:World} {spare:Nat→Bool} {held:Bool} {fuel:Nat} {cs:List Value} {x:DataW H×List MemPlace} (h:DataW.trod enc Tryz.prog w 0 spare held fuel 78 cs=some x): ∃v:EngineAskedIn,ci w cs (encEngineAskedIn v)∧(okEngineAskedIn v)∧bkEngineAskedIn v≤co x.1:=by
 obtain ⟨xs,n,hb,hc,hx,hf⟩:=fields_of Tryz.underlying78 h
 rw [cells78] at hc
 obtain ⟨y0,y1,y2,y3,rfl⟩: ∃y0 y1 y2 y3,xs=[y0,y1,y2,y3]:=by
  match xs,hx with
  |[y0,y1,y2,y3],_=>exact ⟨_,_,_,_,rfl⟩
 have f0:DataW.trod enc Tryz.prog w 0 spare held n 3 ((cs.drop 0).take (Tryz.prog.cellsOf 3))=some y0:=hf 0 _ rfl
 rw [cells3] at f0
 obtain ⟨v0,r0,o0,b0⟩:=rd3 f0
 have f1:DataW.trod enc Tryz.prog w 0 spare held n 22 ((cs.drop 1).take (Tryz.prog.cellsOf 22))=some y1:=hf 1 _ rfl
 rw [cells22] at f1
 obtain ⟨v1,r1,o1,b1⟩:=rd22 f1
 have f2:DataW.trod enc Tryz.prog w 0 spare held n 3 ((cs.drop 2).take (Tryz.prog.cellsOf 3))=some y2:=hf 2 _ rfl
 rw [cells3] at f2
 obtain ⟨v2,r2,o2,b2⟩:=rd3 f2
 have f3:DataW.trod enc Tryz.prog w 0 spare held n 44 ((cs.drop 3).take (Tryz.prog.cellsOf 44))=some y3:=hf 3 _ rfl
 rw [cells44] at f3
 obtain ⟨v3,r3,o3,b3⟩:=rd44 f3
 have z:=ci.nil (w:=w) (cs:=cs)
 rw [hc] at z
 have g:=(ci.app (o:=0) (k:=1) rfl r0 (ci.app (o:=1) (k:=1) rfl r1 (ci.app (o:=2) (k:=1) rfl r2 (ci.app (o:=3) (k:=6) rfl r3 z))))
 refine ⟨⟨v0,v1,v2,v3⟩,g,⟨o0,o1,o2,o3⟩,?_⟩
 simp only [List.map,bU] at hb
 unfold bkEngineAskedIn
 try dsimp only
 omega
end Go.Ab
namespace Go.Ab
set_option linter.unusedVariables false
set_option linter.unusedSimpArgs false
end Go.Ab
namespace Go.Ab
set_option linter.unusedVariables false
set_option linter.unusedSimpArgs false
theorem ask_ok {l:Locks} (hl:LOk l) (h1:l.Held.length+l.Queue.length≤1999999) {txn:Int} (ht:In64 txn) {w:Want} (hw:wOk w) (u:Int):LOk (askM l txn w u).1:=by
 unfold askM
 split
 ·exact hl
 split
 ·exact hl
 split
 ·exact hl
 split
 ·refine ⟨by simp only [List.length_append,List.length_cons,List.length_nil];omega,hl.queL,fun h hm=> ?_,hl.que⟩
  rcases List.mem_append.1 hm with hm|hm
  ·exact hl.held h hm
  ·simp at hm;subst hm;exact ⟨ht,hw⟩
 split
 ·exact hl
 ·refine ⟨hl.heldL,by simp only [List.length_append,List.length_cons,List.length_nil];omega,hl.held,fun c hm=> ?_⟩
  rcases List.mem_append.1 hm with hm|hm
  ·exact hl.que c hm
  ·simp at hm;subst hm;exact ⟨ht,hw⟩
theorem blockM_len (l:Locks) (t:Int) (w:Want) (n:Nat):(dv l t w n).length≤l.Held.length+l.Queue.length:=by
 have gen: ∀ {α:Type} (T:α→Int) (W:α→Want) (l:List α) (b:List Int),(l.foldl (fun ks y=>addB t w ks (T y) (W y)) b).length≤b.length+l.length:=by
  intro α T W l
  induction l with
  |nil=>intro b;simp
  |cons y r ih=>
   intro b
   rw [List.foldl_cons]
   have h1:=ih (addB t w b (T y) (W y))
   have h2:=addB_len t w b (T y) (W y)
   simp only [List.length_cons];omega
 have h1:=gen (fun x:Hold=>x.Txn) (fun x=>x.W) l.Held []
 have h2:=gen (fun x:Claim=>x.Txn) (fun x=>x.W) (l.Queue.take n) (heldB t w l.Held [])
 have h3:(l.Queue.take n).length≤l.Queue.length:=by rw [List.length_take];omega
 have h4:(heldB t w l.Held []).length≤0+l.Held.length:=h1
 have h5:(queB t w (l.Queue.take n) (heldB t w l.Held [])).length≤(heldB t w l.Held []).length+(l.Queue.take n).length:=h2
 unfold dv blockS
 rw [List.length_mergeSort];omega
theorem lateM_len (l:Locks) (now:Int):(lateM l now).length≤l.Queue.length:=by
 have gen: ∀(q:List Claim) (b:List Int),(q.foldl (fun out c=>if c.Until≤now then out++[c.Txn] else out) b).length≤b.length+q.length:=by
  intro q
  induction q with
  |nil=>intro b;simp
  |cons y r ih=>
   intro b
   rw [List.foldl_cons]
   refine Nat.le_trans (ih _) ?_
   simp only [List.length_cons]
   split
   ·simp only [List.length_append,List.length_cons,List.length_nil];omega
   ·omega
 have:=gen l.Queue []
 unfold lateM
 simpa using this
end Go.Ab
namespace Go.Ab
set_option linter.unusedVariables false
set_option linter.unusedSimpArgs false
theorem settle_parts (n:Nat): ∀(l:Locks) (out:List Int),∃g:List Hold,(cY n l out).1.Held=l.Held++g∧(cY n l out).2=out++g.map (fun h=>h.Txn)∧(∀h∈g,∃c∈l.Queue,c.Txn=h.Txn∧c.W=h.W)∧(cY n l out).1.Queue.Sublist l.Queue:=by
 induction n with
 |zero=>intro l out;exact ⟨[],by simp [cY]⟩
 |succ n ih=>
  intro l out
  unfold cY
  cases hf:(List.range l.Queue.length).find? (freeI l) with
  |none=>exact ⟨[],by simp⟩
  |some k=>
   have hk:k<l.Queue.length:=by have:=List.mem_of_find?_eq_some hf;simpa using this
   obtain ⟨g,e1,e2,e3,e4⟩:=ih (grantM l k) (out++[(claimAt l k).Txn])
   have hc:claimAt l k∈l.Queue:=by rw [claim_at hk];exact List.getElem_mem hk
   have hsub:(grantM l k).Queue.Sublist l.Queue:=by
    have h1:(l.Queue.drop (k+1)).Sublist (l.Queue.drop k):=by
     rw [show k+1=k+1 from rfl,←List.drop_drop]
     exact List.drop_sublist _ _
    have h2:=(List.Sublist.refl (l.Queue.take k)).append h1
    rw [List.take_append_drop] at h2
    exact h2
   refine ⟨⟨(claimAt l k).Txn,(claimAt l k).W⟩::g,?_,?_,?_,e4.trans hsub⟩
   ·rw [e1];unfold grantM;simp
   ·rw [e2];simp
   ·intro h hm
    rcases List.mem_cons.1 hm with rfl|hm
    ·exact ⟨_,hc,rfl,rfl⟩
    ·obtain ⟨c,h1,h2⟩:=e3 h hm
     exact ⟨c,hsub.subset h1,h2⟩
end Go.Ab
namespace Go.Ab
set_option linter.unusedVariables false
set_option linter.unusedSimpArgs false
def ApartL (l:Locks):Prop:= ∀a∈l.Held,∀b∈l.Held,a.Txn≠b.Txn→clashM a.W b.W=false
def WaitL (l:Locks):Prop:= ∀k c,l.Queue[k]? =some c→dv l c.Txn c.W k≠[]
def OneL (l:Locks):Prop:=(l.Queue.map (fun c=>c.Txn)).Nodup
theorem mem_ne {l:List Int}:(∃x,x∈l)↔l≠[]:=by
 constructor
 ·rintro ⟨x,h⟩ e;rw [e] at h;cases h
 ·intro h
  cases l with
  |nil=>exact absurd rfl h
  |cons x r=>exact ⟨x,List.mem_cons_self ..⟩
theorem apart_add {l:Locks} (h:ApartL l) {t:Int} {w:Want} {n:Nat} {q:List Claim} (hb:dv l t w n=[]):ApartL ⟨l.Held++[⟨t,w⟩],q⟩:=by
 have key: ∀a∈l.Held,a.Txn≠t→clashM a.W w=false:=by
  intro a ha hne
  cases hc:clashM a.W w with
  |false=>rfl
  |true=>
   have:a.Txn∈dv l t w n:=(blockS_mem l t w n a.Txn).2 (.inl ⟨a,ha,rfl,hne,hc⟩)
   rw [hb] at this;cases this
 intro a ha b hb hne
 rcases List.mem_append.1 ha with ha|ha<;>rcases List.mem_append.1 hb with hb|hb
 ·exact h a ha b hb hne
 ·simp at hb;subst hb;exact key a ha hne
 ·simp at ha;subst ha
  rw [clash_comm]
  exact key b hb (fun e=>hne e.symm)
 ·simp at ha hb;subst ha;subst hb;exact absurd rfl hne
theorem settle_apart (n:Nat): ∀(l:Locks) (out:List Int),ApartL l→ApartL (cY n l out).1:=by
 induction n with
 |zero=>intro l out h;exact h
 |succ n ih=>
  intro l out h
  unfold cY
  cases hf:(List.range l.Queue.length).find? (freeI l) with
  |none=>exact h
  |some k=>
   have hk:k<l.Queue.length:=by have:=List.mem_of_find?_eq_some hf;simpa using this
   have hq:=List.find?_some hf
   rw [freeI_at hk] at hq
   refine ih _ _ ?_
   unfold grantM
   rw [claim_at hk]
   exact apart_add h (by simpa using hq)
theorem settle_fix (n:Nat): ∀(l:Locks) (out:List Int),l.Queue.length<n→WaitL (cY n l out).1:=by
 induction n with
 |zero=>intro l out h;omega
 |succ n ih=>
  intro l out h
  unfold cY
  cases hf:(List.range l.Queue.length).find? (freeI l) with
  |none=>
   intro k c hk hb
   have hlt:=(List.getElem?_eq_some_iff.1 hk).1
   have:=List.find?_eq_none.1 hf k (by simpa using hlt)
   rw [freeI_at hlt,(List.getElem?_eq_some_iff.1 hk).2,hb] at this
   simp at this
  |some k=>
   have hk:k<l.Queue.length:=by have:=List.mem_of_find?_eq_some hf;simpa using this
   refine ih _ _ ?_
   unfold grantM
   simp only [List.length_append,List.length_take,List.length_drop];omega
structure LInv (n:Nat) (l:Locks):Prop where
 ok:LOk l
 len:l.Held.length+l.Queue.length≤n
 apart:ApartL l
 wait:WaitL l
 one:OneL l
 few:l.Queue.length≤16
theorem linv_ask {n:Nat} {l:Locks} (hn:n≤1000000) (h:LInv n l) {txn:Int} (ht:In64 txn) {w:Want} (hw:wOk w) (u:Int):LInv (n+1) (askM l txn w u).1:=by
 have ok:=ask_ok h.ok (by have:=h.len;omega) ht hw u
 have hl:=h.len
 unfold askM at ok⊢
 by_cases q1:txn<1∨mayM2 w=false
 ·rw [if_pos q1];exact ⟨h.ok,Nat.le_succ_of_le h.len,h.apart,h.wait,h.one,h.few⟩
 rw [if_neg q1] at ok⊢
 by_cases q2:da l txn=true
 ·rw [if_pos q2];exact ⟨h.ok,Nat.le_succ_of_le h.len,h.apart,h.wait,h.one,h.few⟩
 rw [if_neg q2] at ok⊢
 by_cases q3:covH l txn w=true
 ·rw [if_pos q3];exact ⟨h.ok,Nat.le_succ_of_le h.len,h.apart,h.wait,h.one,h.few⟩
 rw [if_neg q3] at ok⊢
 by_cases q4:dv l txn w l.Queue.length=[]
 ·rw [if_pos q4] at ok⊢
  refine ⟨ok,by simp only [List.length_append,List.length_cons,List.length_nil];omega,apart_add h.apart q4,?_,h.one,h.few⟩
  intro k c hk
  obtain ⟨x,hx⟩:=mem_ne.2 (h.wait k c hk)
  refine mem_ne.1 ⟨x,?_⟩
  rw [blockS_mem] at hx⊢
  rcases hx with ⟨a,ha,hr⟩|⟨a,ha,hr⟩
  ·exact .inl ⟨a,List.mem_append_left _ ha,hr⟩
  ·exact .inr ⟨a,ha,hr⟩
 rw [if_neg q4] at ok⊢
 by_cases q5:16≤l.Queue.length
 ·rw [if_pos q5];exact ⟨h.ok,Nat.le_succ_of_le h.len,h.apart,h.wait,h.one,h.few⟩
 rw [if_neg q5] at ok⊢
 refine ⟨ok,by simp only [List.length_append,List.length_cons,List.length_nil];omega,h.apart,?_,?_,by simp only [List.length_append,List.length_cons,List.length_nil];omega⟩
 ·intro k c hk
  simp only at hk
  have tk:k≤l.Queue.length:=by
   have:=(List.getElem?_eq_some_iff.1 hk).1
   simp only [List.length_append,List.length_cons,List.length_nil] at this;omega
  have hne:dv l c.Txn c.W k≠[]:=by
   by_cases hlt:k<l.Queue.length
   ·rw [List.getElem?_append_left hlt] at hk
    exact h.wait k c hk
   ·have:k=l.Queue.length:=by omega
    subst this
    rw [List.getElem?_append_right (Nat.le_refl _)] at hk
    simp at hk;subst hk
    exact q4
  obtain ⟨x,hx⟩:=mem_ne.2 hne
  refine mem_ne.1 ⟨x,?_⟩
  rw [blockS_mem] at hx⊢
  simp only
  rw [List.take_append_of_le_length tk]
  exact hx
 ·unfold OneL
  simp only [List.map_append,List.map_cons,List.map_nil]
  rw [List.nodup_append]
  refine ⟨h.one,by simp,?_⟩
  intro a ha b hb e
  simp at hb;subst hb;subst e
  obtain ⟨c,hc,hc2⟩:=List.mem_map.1 ha
  exact q2 (by unfold da;rw [List.any_eq_true];exact ⟨c,hc,by simp [hc2]⟩)
theorem linv_free {n:Nat} {l:Locks} (hn:n≤1000000) (h:LInv n l) (txn:Int):LInv (n+1) (bZ l txn).1:=by
 obtain ⟨k1,k2,k3⟩:=less_ok2 h.ok txn
 have hl:=h.len
 have hf:=h.few
 obtain ⟨g,e1,e2,e3,e4⟩:=settle_parts ((lessL l txn).Queue.length+1) (lessL l txn) []
 have f4:(bZ l txn).1.Queue.Sublist (lessL l txn).Queue:=e4
 have f5:=f4.length_le
 have hlen: ∀n (l:Locks) out,(cY n l out).1.Held.length+(cY n l out).1.Queue.length=l.Held.length+l.Queue.length:=by
  intro n
  induction n with
  |zero=>intro l out;rfl
  |succ n ih=>
   intro l out
   unfold cY
   cases hf:(List.range l.Queue.length).find? (freeI l) with
   |none=>rfl
   |some k=>
    have hk:k<l.Queue.length:=by have:=List.mem_of_find?_eq_some hf;simpa using this
    simp only
    rw [ih]
    unfold grantM
    simp only [List.length_append,List.length_take,List.length_drop,List.length_cons,List.length_nil];omega
 have f6:(bZ l txn).1.Held.length+(bZ l txn).1.Queue.length=(lessL l txn).Held.length+(lessL l txn).Queue.length:=hlen _ _ _
 refine ⟨settleF_ok _ _ _ k1 (by omega),by omega,settle_apart _ _ _ ?_,settle_fix _ _ _ (by omega),?_,by omega⟩
 ·intro a ha b hb hne
  exact h.apart a (List.mem_filter.1 ha).1 b (List.mem_filter.1 hb).1 hne
 ·have s1:(lessL l txn).Queue.Sublist l.Queue:=List.filter_sublist
  exact ((f4.trans s1).map _).nodup h.one
end Go.Ab
namespace Go.Ab
set_option linter.unusedVariables false
set_option linter.unusedSimpArgs false
theorem srt_ext {a b:List Int} (ha:Srt a) (hb:Srt b) (h: ∀x,x∈a↔x∈b):a=b:=by
 have h1:=srt_unique ha (srt_nodup hb) h
 have h2:=srt_unique hb (srt_nodup hb) (fun _=>Iff.rfl)
 rw [h1,←h2]
theorem nodup_len {a:List Int}: ∀ {u:List Int},a.Nodup→(∀x∈a,x∈u)→a.length≤u.length:=by
 induction a with
 |nil=>intro u _ _;exact Nat.zero_le _
 |cons y r ih=>
  intro u h1 h2
  have h3:=List.nodup_cons.1 h1
  have hy:=h2 y (List.mem_cons_self ..)
  have:=ih (u:=u.erase y) h3.2 (fun x hx=>by
   have hne:x≠y:=fun e=>h3.1 (e▸hx)
   exact (List.mem_erase_of_ne hne).2 (h2 x (List.mem_cons_of_mem _ hx)))
  rw [List.length_erase_of_mem hy] at this
  have:=List.length_pos_of_mem hy
  simp only [List.length_cons];omega
theorem mem_take_succ {α:Type} {l:List α} {k:Nat} {y:α} (h:l[k]? =some y) (x:α):x∈l.take (k+1)↔x∈l.take k∨x=y:=by
 have hlt:=(List.getElem?_eq_some_iff.1 h).1
 rw [List.take_succ_eq_append_getElem hlt,(List.getElem?_eq_some_iff.1 h).2]
 simp
theorem srt_add {a:List Int} {y:Int} (h:Srt a) (hy: ∀x∈a,x<y):Srt (a++[y]):=by
 unfold Srt
 rw [List.pairwise_append]
 exact ⟨h,by simp,fun x hx z hz=>by simp at hz;subst hz;exact hy x hx⟩
theorem le_at {l:List Int} (hs:l.Pairwise (fun a b=>a≤b)) {i j:Nat} (hj:j<l.length) (hij:i≤j):l[i]'(by omega)≤l[j]:=by
 rcases Nat.lt_or_eq_of_le hij with h|h
 ·exact List.pairwise_iff_getElem.1 hs i j (by omega) hj h
 ·subst h;exact Int.le_refl _
theorem le_of_take {l:List Int} (hs:l.Pairwise (fun a b=>a≤b)) {j:Nat} (hj:j<l.length) {x:Int} (hx:x∈l.take (j+1)):x≤l[j]:=by
 obtain ⟨i,hi,rfl⟩:=List.mem_iff_getElem.1 hx
 rw [List.length_take] at hi
 rw [List.getElem_take]
 exact le_at hs hj (by omega)
theorem compact_in {l:List Int} (hl:l.length≤1073741824) (hs:l.Pairwise (fun a b=>a≤b)) (k:Nat) (hk:1≤k): ∀(m j i:Nat) (a:List Int),k+j+m=l.length→1≤j→i+1≤k+j→a.length=l.length→a.drop (k+j - 1)=l.drop (k+j - 1)→
 Srt (a.take i)→(∀x,x∈a.take i↔x∈l.take (k+j))→ ∃(i2:Nat) (a2:List Int),loop (fun (s13054:Int×Int×(List Int))=>cd l (k:Int) s13054.1 s13054.2.1 s13054.2.2) ((i:Int),(j:Int),a)=some ((i2:Int),a2)∧a2.length=l.length∧i2≤l.length∧Srt (a2.take i2)∧ ∀x,x∈a2.take i2↔x∈l:=by
 have hn:((((List.map (ax .i64) l).length:Nat):Int).toNat) - ((k:Int).toNat)=l.length - k:=by simp
 intro m
 induction m with
 |zero=>
  intro j i a hj h1 hi ha hd hst hm
  refine ⟨i,a,aF ?_,ha,by omega,hst,fun x=> ?_⟩
  ·simp only
   unfold cd
   rw [hn,if_neg (by simp;omega)]
  ·rw [hm,show k+j=l.length by omega,List.take_length]
 |succ m ih=>
  intro j i a hj h1 hi ha hd hst hm
  have hlt:k+j<l.length:=by omega
  have a1:a[k+j]? =some l[k+j]:=by
   have h:=congrArg (fun x=>x[1]?) hd
   simp only [List.getElem?_drop] at h
   rw [show k+j - 1+1=k+j by omega] at h
   rw [h,List.getElem?_eq_getElem hlt]
  have a0:a[k+j - 1]? =some (l[k+j - 1]'(by omega)):=by
   have h:=congrArg (fun x=>x[0]?) hd
   simp only [List.getElem?_drop,Nat.add_zero] at h
   rw [h,List.getElem?_eq_getElem (by omega)]
  have e1:IntKind.i64.wrap ((j:Int) - 1)=((j - 1:Nat):Int):=by rw [IntWalk.i64_in _ ⟨by omega,by omega⟩];omega
  have hd2:a.drop (k+(j+1) - 1)=l.drop (k+(j+1) - 1):=by
   have:=congrArg (List.drop 1) hd
   rw [List.drop_drop,List.drop_drop] at this
   rw [show k+(j+1) - 1=k+j - 1+1 by omega];exact this
  have hle:l[k+j - 1]'(by omega)≤l[k+j]:=le_at hs hlt (by omega)
  by_cases he:l[k+j]=l[k+j - 1]'(by omega)
  ·rw [bz (s':=((i:Int),((j+1:Nat):Int),a))]
   ·refine ih (j+1) i a (by omega) (by omega) (by omega) ha hd2 hst (fun x=> ?_)
    rw [hm,←Nat.add_assoc,mem_take_succ (List.getElem?_eq_getElem hlt)]
    refine ⟨.inl,fun h=>h.elim id (fun h=> ?_)⟩
    rw [h,he]
    exact List.mem_iff_getElem.2 ⟨k+j - 1,by rw [List.length_take];omega,by rw [List.getElem_take]⟩
   ·simp only
    unfold cd
    rw [hn,e1,if_pos (by simp;omega),ah (by omega),ah (by omega),Int.toNat_natCast,Int.toNat_natCast,Int.toNat_natCast,aP (show k+j<a.length by omega),(List.getElem?_eq_some_iff.1 a1).2]
    simp only [Option.bind_some]
    rw [show k+(j - 1)=k+j - 1 by omega,aP (show k+j - 1<a.length by omega),(List.getElem?_eq_some_iff.1 a0).2]
    simp only [Option.bind_some]
    rw [if_neg (by simpa using he),IntWalk.i64_in _ ⟨by omega,by omega⟩]
    rfl
  ·rw [bz (s':=(((i+1:Nat):Int),((j+1:Nat):Int),a.set i l[k+j]))]
   ·have ht:(a.set i l[k+j]).take (i+1)=a.take i++[l[k+j]]:=by
     rw [List.take_succ_eq_append_getElem (by rw [List.length_set];omega)]
     simp
     apply List.ext_getElem?
     intro n
     rw [List.getElem?_take,List.getElem?_take]
     split
     ·rw [List.getElem?_set_ne (by omega)]
     ·rfl
    refine ih (j+1) (i+1) (a.set i l[k+j]) (by omega) (by omega) (by omega) (by rw [List.length_set];exact ha) ?_ ?_ (fun x=> ?_)
    ·rw [List.drop_set_of_lt (by omega)];exact hd2
    ·rw [ht]
     refine srt_add hst (fun x hx=> ?_)
     have:=le_of_take (j:=k+j - 1) hs (by omega) (by rw [show k+j - 1+1=k+j by omega];exact (hm x).1 hx)
     omega
    ·rw [ht,←Nat.add_assoc,mem_take_succ (List.getElem?_eq_getElem hlt),List.mem_append,hm]
     simp
   ·simp only
    unfold cd
    rw [hn,e1,if_pos (by simp;omega),ah (by omega),ah (by omega),Int.toNat_natCast,Int.toNat_natCast,Int.toNat_natCast,aP (show k+j<a.length by omega),(List.getElem?_eq_some_iff.1 a1).2]
    simp only [Option.bind_some]
    rw [show k+(j - 1)=k+j - 1 by omega,aP (show k+j - 1<a.length by omega),(List.getElem?_eq_some_iff.1 a0).2]
    simp only [Option.bind_some]
    rw [if_pos (by simpa using he),aP (show i<a.length by omega)]
    simp only [Option.bind_some]
    rw [IntWalk.i64_in _ ⟨by omega,by omega⟩,IntWalk.i64_in _ ⟨by omega,by omega⟩,Int.toNat_natCast]
    rfl
theorem compact_eq {l:List Int} (hl:l.length≤1073741824) (hs:l.Pairwise (fun a b=>a≤b)): ∃r,slices_Compact_int l=some r∧Srt r∧ ∀x,x∈r↔x∈l:=by
 unfold slices_Compact_int
 by_cases h2:l.length<2
 ·rw [if_pos (by simp;omega)]
  refine ⟨l,rfl,?_,fun x=>Iff.rfl⟩
  match l,h2 with
  |[],_=>exact List.Pairwise.nil
  |[x],_=>exact by simp [Srt]
 rw [if_neg (by simp;omega)]
 have key: ∀(m k:Nat),k+m=l.length→1≤k→Srt (l.take k)→ ∃o,loop (fun (s12053:Int)=>ce l s12053) (k:Int)=some o∧(match o with| .inl r=>Srt r∧ ∀x,x∈r↔x∈l| .inr _=>Srt l):=by
  intro m
  induction m with
  |zero=>
   intro k hk h1 hst
   have:k=l.length:=by omega
   subst this
   rw [List.take_length] at hst
   refine ⟨.inr (),aF ?_,hst⟩
   unfold ce
   rw [if_neg (by simp)]
  |succ m ih=>
   intro k hk h1 hst
   have hlt:k<l.length:=by omega
   have e1:IntKind.i64.wrap ((k:Int) - 1)=((k - 1:Nat):Int):=by rw [IntWalk.i64_in _ ⟨by omega,by omega⟩];omega
   have hle:l[k - 1]'(by omega)≤l[k]:=le_at hs hlt (by omega)
   by_cases he:l[k]=l[k - 1]'(by omega)
   ·obtain ⟨i2,a2,c1,c2,c3,c4,c5⟩:=compact_in hl hs k h1 (l.length - (k+1)) 1 k l (by omega) (by omega) (by omega) rfl rfl hst (fun x=>by
     rw [mem_take_succ (List.getElem?_eq_getElem hlt)]
     refine ⟨.inl,fun h=>h.elim id (fun h=> ?_)⟩
     rw [h,he]
     exact List.mem_iff_getElem.2 ⟨k - 1,by rw [List.length_take];omega,by rw [List.getElem_take]⟩)
    refine ⟨.inl (a2.take i2),aF ?_,c4,c5⟩
    unfold ce
    rw [if_pos (by simpa using hlt),aP hlt]
    simp only [Option.bind_some]
    rw [e1,aP (show k - 1<l.length by omega)]
    simp only [Option.bind_some]
    rw [if_pos (by simpa using he),ah (by omega),ah (by omega)]
    have c1':loop (fun (s13054:Int×Int×(List Int))=>cd l (k:Int) s13054.1 s13054.2.1 s13054.2.2) ((k:Int),(1:Int),l)=some ((i2:Int),a2):=c1
    rw [c1']
    simp only [Option.bind_some]
    have hn:(((List.map (ax .i64) a2).length:Nat):Int).toNat=a2.length:=by simp
    rw [ah (by omega),ah (by omega),ah (by simp only [List.length_append,List.length_take,List.length_drop,List.length_replicate,hn];omega),ah (by simp only [List.length_append,List.length_take,List.length_drop,List.length_replicate,hn,Int.toNat_natCast];omega)]
    rw [Int.toNat_natCast]
    exact congrArg (fun x=>some (Sum.inr (Sum.inl x))) (del_end a2 _ _ i2 (by omega))
   ·obtain ⟨o,o1,o2⟩:=ih (k+1) (by omega) (by omega) (by
     rw [List.take_succ_eq_append_getElem hlt]
     refine srt_add hst (fun x hx=> ?_)
     have:=le_of_take (j:=k - 1) hs (by omega) (by rw [show k - 1+1=k by omega];exact hx)
     omega)
    refine ⟨o,?_,o2⟩
    rw [bz (s':=((k+1:Nat):Int))]
    ·exact o1
    ·unfold ce
     rw [if_pos (by simpa using hlt),aP hlt]
     simp only [Option.bind_some]
     rw [e1,aP (show k - 1<l.length by omega)]
     simp only [Option.bind_some]
     rw [if_neg (by simpa using he),IntWalk.i64_in _ ⟨by omega,by omega⟩]
     rfl
 obtain ⟨o,o1,o2⟩:=key (l.length - 1) 1 (by omega) (by omega) (by
  cases l with
  |nil=>simp [Srt]
  |cons x r=>simp [Srt])
 have o1':loop (fun (s12053:Int)=>ce l s12053) (1:Int)=some o:=o1
 rw [o1']
 cases o with
 |inl r=>exact ⟨r,rfl,o2.1,o2.2⟩
 |inr u=>exact ⟨l,rfl,o2,fun x=>Iff.rfl⟩
end Go.Ab
namespace Go.Ab
set_option linter.unusedVariables false
set_option linter.unusedSimpArgs false
def EdgeL (l:Locks) (t b:Int):Prop:= ∃i c,l.Queue[i]? =some c∧c.Txn=t∧b∈dv l t c.W i
inductive RchL (l:Locks) (t:Int):Int→Prop
 |one {b:Int}:EdgeL l t b→RchL l t b
 |more {a b:Int}:RchL l t a→EdgeL l a b→RchL l t b
theorem RchL.trans {l:Locks} {a b c:Int} (h1:RchL l a b) (h2:RchL l b c):RchL l a c:=by
 induction h2 with
 |one h=>exact .more h1 h
 |more _ h ih=>exact .more ih h
def uniL (l:Locks):List Int:=l.Held.map (fun h=>h.Txn)++l.Queue.map (fun c=>c.Txn)
theorem uniL_len (l:Locks):(uniL l).length=l.Held.length+l.Queue.length:=by simp [uniL]
theorem blockM_uni {l:Locks} {t:Int} {w:Want} {n:Nat} {x:Int} (h:x∈dv l t w n):x∈uniL l:=by
 rw [blockS_mem] at h
 unfold uniL
 rw [List.mem_append,List.mem_map,List.mem_map]
 rcases h with ⟨a,ha,h1,_⟩|⟨a,ha,h1,_⟩
 ·exact .inl ⟨a,ha,h1⟩
 ·exact .inr ⟨a,List.mem_of_mem_take ha,h1⟩
theorem edge_uni {l:Locks} {t b:Int} (h:EdgeL l t b):b∈uniL l:=by
 obtain ⟨i,c,_,_,h⟩:=h
 exact blockM_uni h
theorem rch_uni {l:Locks} {t b:Int} (h:RchL l t b):b∈uniL l:=by
 cases h with
 |one h=>exact edge_uni h
 |more _ h=>exact edge_uni h
theorem uni_in {l:Locks} (hl:LOk l) {x:Int} (h:x∈uniL l):In64 x:=by
 unfold uniL at h
 rw [List.mem_append,List.mem_map,List.mem_map] at h
 rcases h with ⟨a,ha,rfl⟩|⟨a,ha,rfl⟩
 ·exact (hl.held a ha).1
 ·exact (hl.que a ha).1
noncomputable def setM (u:List Int) (p:Int→Prop):List Int:=by
 classical exact (u.filter (fun x=>decide (p x))).foldl putM []
theorem foldl_put (l:List Int): ∀a:List Int,Srt a→Srt (l.foldl putM a)∧ ∀x,x∈l.foldl putM a↔x∈a∨x∈l:=by
 induction l with
 |nil=>intro a h;exact ⟨h,fun x=>by simp⟩
 |cons y r ih=>
  intro a h
  obtain ⟨h1,h2⟩:=ih (putM a y) (putM_srt h y)
  refine ⟨h1,fun x=> ?_⟩
  rw [List.foldl_cons,h2,putM_mem,List.mem_cons]
  constructor
  ·rintro ((h|h)|h)
   ·exact .inr (.inl h)
   ·exact .inl h
   ·exact .inr (.inr h)
  ·rintro (h|h|h)
   ·exact .inl (.inr h)
   ·exact .inl (.inl h)
   ·exact .inr h
theorem setM_srt (u:List Int) (p:Int→Prop):Srt (setM u p):=(foldl_put _ [] List.Pairwise.nil).1
theorem setM_mem (u:List Int) (p:Int→Prop) (x:Int):x∈setM u p↔x∈u∧p x:=by
 unfold setM
 rw [(foldl_put _ [] List.Pairwise.nil).2]
 simp
theorem setM_eq {u a:List Int} {p:Int→Prop} (h:Srt a) (hm: ∀x,x∈a↔p x) (hu: ∀x,p x→x∈u):a=setM u p:=
 srt_ext h (setM_srt u p) (fun x=>by rw [setM_mem,hm];exact ⟨fun h=>⟨hu x h,h⟩,fun h=>h.2⟩)
theorem setM_len (u:List Int) (p:Int→Prop):(setM u p).length≤u.length:=nodup_len (srt_nodup (setM_srt u p)) (fun x hx=>((setM_mem u p x).1 hx).1)
noncomputable def afterM (l:Locks) (t:Int):List Int:=setM (uniL l) (EdgeL l t)
noncomputable def reachM (l:Locks) (t:Int):List Int:=setM (uniL l) (RchL l t)
noncomputable def ringM (l:Locks) (t:Int):List Int:=setM (uniL l) (fun x=>RchL l t x∧RchL l x t)
theorem afterM_mem (l:Locks) (t x:Int):x∈afterM l t↔EdgeL l t x:=by
 unfold afterM;rw [setM_mem];exact ⟨fun h=>h.2,fun h=>⟨edge_uni h,h⟩⟩
theorem reachM_mem (l:Locks) (t x:Int):x∈reachM l t↔RchL l t x:=by
 unfold reachM;rw [setM_mem];exact ⟨fun h=>h.2,fun h=>⟨rch_uni h,h⟩⟩
theorem ringM_mem (l:Locks) (t x:Int):x∈ringM l t↔RchL l t x∧RchL l x t:=by
 unfold ringM;rw [setM_mem];exact ⟨fun h=>h.2,fun h=>⟨rch_uni h.1,h⟩⟩
def LSm (l:Locks):Prop:=l.Held.length+l.Queue.length≤2000000∧l.Queue.length*(l.Held.length+l.Queue.length)<1073741824
theorem afterM_len {l:Locks} (t:Int):(afterM l t).length≤l.Held.length+l.Queue.length:=by
 have:=setM_len (uniL l) (EdgeL l t)
 rw [uniL_len] at this;exact this
theorem reachM_len {l:Locks} (t:Int):(reachM l t).length≤l.Held.length+l.Queue.length:=by
 have:=setM_len (uniL l) (RchL l t)
 rw [uniL_len] at this;exact this
theorem mul_step {k n U:Nat} (h:k<n):k*U+U≤n*U:=by
 have h1:(k+1)*U≤n*U:=Nat.mul_le_mul_right U h
 have h2:(k+1)*U=k*U+U:=Nat.succ_mul k U
 omega
theorem leI_trans (a b c:Int) (h1:leI a b=true) (h2:leI b c=true):leI a c=true:=by
 unfold leI at*;simp only [decide_eq_true_eq] at*;omega
theorem leI_tot (a b:Int):(leI a b||leI b a)=true:=by
 unfold leI;simp only [Bool.or_eq_true,decide_eq_true_eq];omega
theorem sorted_le (l:List Int):(l.mergeSort leI).Pairwise (fun a b=>a≤b):=by
 have:=List.pairwise_mergeSort (le:=leI) leI_trans leI_tot l
 exact this.imp fun h=>by unfold leI at h;simpa using h
theorem after_eq {l:Locks} (hl:LOk l) (hs:LSm l) (t:Int):ring_After l t=some (afterM l t):=by
 have b1:=hl.queL
 obtain ⟨s1,s2⟩:=hs
 obtain ⟨y,h1,h2,h3⟩:=invl_loop (ρ:=List Int) l.Queue (fun k (s:List Int)=>((k:Int),s)) (fun (s196:Int×(List Int))=>ring_After_l2 l t s196.1 s196.2) (fun s=>s)
  (fun k s=>(∀x,x∈s↔ ∃i c,i<k∧l.Queue[i]? =some c∧c.Txn=t∧x∈dv l t c.W i)∧s.length≤k*(l.Held.length+l.Queue.length))
  (fun k c s hk hi=>by
    have hlt:=(List.getElem?_eq_some_iff.1 hk).1
    have hx:=(List.getElem?_eq_some_iff.1 hk).2
    obtain ⟨i1,i2⟩:=hi
    have hm:=mul_step (U:=l.Held.length+l.Queue.length) hlt
    have e:(k+1)*(l.Held.length+l.Queue.length)=k*(l.Held.length+l.Queue.length)+(l.Held.length+l.Queue.length):=Nat.succ_mul ..
    by_cases h:c.Txn=t
    ·have hb:=blockM_len l t c.W k
     refine ⟨s++dv l t c.W k,?_,fun x=> ?_,by rw [List.length_append];omega⟩
     ·simp only
      unfold ring_After_l2
      rw [if_pos (by simpa using hlt),aP hlt,hx]
      simp only [Option.bind_some]
      rw [if_pos (by simpa using h),blockers_eq hl,Int.toNat_natCast]
      simp only [Option.bind_some]
      rw [ah (by omega),IntWalk.i64_in _ ⟨by omega,by omega⟩]
      rfl
     ·rw [List.mem_append,i1]
      constructor
      ·rintro (⟨i,c2,g1,g2⟩|g)
       ·exact ⟨i,c2,by omega,g2⟩
       ·exact ⟨k,c,by omega,hk,h,g⟩
      ·rintro ⟨i,c2,g1,g2,g3,g4⟩
       by_cases hik:i=k
       ·subst hik;rw [hk] at g2;cases g2;exact .inr g4
       ·exact .inl ⟨i,c2,by omega,g2,g3,g4⟩
    ·refine ⟨s,?_,fun x=> ?_,by omega⟩
     ·simp only
      unfold ring_After_l2
      rw [if_pos (by simpa using hlt),aP hlt,hx]
      simp only [Option.bind_some]
      rw [if_neg (by simpa using h),IntWalk.i64_in _ ⟨by omega,by omega⟩]
      rfl
     ·rw [i1]
      constructor
      ·rintro ⟨i,c2,g1,g2⟩
       exact ⟨i,c2,by omega,g2⟩
      ·rintro ⟨i,c2,g1,g2,g3,g4⟩
       by_cases hik:i=k
       ·subst hik;rw [hk] at g2;cases g2;exact absurd g3 h
       ·exact ⟨i,c2,by omega,g2,g3,g4⟩)
  (fun s _=>by
    simp only
    unfold ring_After_l2
    rw [if_neg (by simp)]) [] ⟨fun x=>by simp,by simp⟩
 have h1':loop (fun (s196:Int×(List Int))=>ring_After_l2 l t s196.1 s196.2) ((0:Int),([]:(List Int)))=some y:=h1
 obtain ⟨r,c1,c2,c3⟩:=compact_eq (l:=y.mergeSort leI) (by rw [List.length_mergeSort];omega) (sorted_le y)
 unfold ring_After
 rw [h1']
 simp only [Option.bind_some]
 rw [ah (by omega),c1]
 refine congrArg some (setM_eq c2 (fun x=> ?_) (fun x h=>edge_uni h))
 rw [c3,List.mem_mergeSort,h2]
 constructor
 ·rintro ⟨i,c,_,g⟩;exact ⟨i,c,g⟩
 ·rintro ⟨i,c,g⟩;exact ⟨i,c,(List.getElem?_eq_some_iff.1 g.1).1,g⟩
end Go.Ab
namespace Go.Ab
set_option linter.unusedVariables false
set_option linter.unusedSimpArgs false
theorem reach1_eq {l:Locks} (hl:LOk l) (hs:LSm l) (t:Int):ring_Reach_1 t l=some (afterM l t):=by
 unfold ring_Reach_1;rw [after_eq hl hs];rfl
theorem reach_in1 {l:Locks} (hl:LOk l) (hs:LSm l) {had row:List Int} (hn:had.Nodup) (h1: ∀x∈had,x∈uniL l) (h2: ∀x∈row,x∈uniL l) (h3:row.length≤8000000000000):
 ∃had2 todo:List Int,loop (fun (s6468:Int×(List Int)×(List Int))=>ring_Reach_l91 row s6468.1 s6468.2.1 s6468.2.2) ((0:Int),had,([]:List Int))=some (had2,todo)∧
  had2.Nodup∧todo.Nodup∧(∀x,x∈had2↔x∈had∨x∈row)∧(∀x,x∈todo↔x∈row∧x∉had):=by
 have hul:=uniL_len l
 have s1:=hs.1
 obtain ⟨y,g1,g2,g3,g4,g5⟩:=invl_loop (ρ:=List Int×List Int) row (fun k (s:List Int×List Int)=>((k:Int),s.1,s.2)) (fun (s6468:Int×(List Int)×(List Int))=>ring_Reach_l91 row s6468.1 s6468.2.1 s6468.2.2) (fun s=>s)
  (fun k s=>s.1.Nodup∧s.2.Nodup∧(∀x,x∈s.1↔x∈had∨x∈row.take k)∧(∀x,x∈s.2↔x∈row.take k∧x∉had))
  (fun k x s hk hi=>by
    have hlt:=(List.getElem?_eq_some_iff.1 hk).1
    have hx:=(List.getElem?_eq_some_iff.1 hk).2
    obtain ⟨i1,i2,i3,i4⟩:=hi
    have hxu:x∈uniL l:=h2 x (List.mem_of_getElem? hk)
    have hx64:=uni_in hl hxu
    have l1:s.1.length≤(uniL l).length:=nodup_len i1 (fun z hz=>((i3 z).1 hz).elim (h1 z) (fun h=>h2 z (List.mem_of_mem_take h)))
    have l2:s.2.length≤(uniL l).length:=nodup_len i2 (fun z hz=>h2 z (List.mem_of_mem_take ((i4 z).1 hz).1))
    by_cases hm:x∈s.1
    ·refine ⟨s,?_,i1,i2,fun z=> ?_,fun z=> ?_⟩
     ·simp only
      unfold ring_Reach_l91
      rw [if_pos (by simpa using hlt),aP hlt,hx]
      simp only [Option.bind_some]
      rw [ah hx64,if_neg (by simpa using hm),IntWalk.i64_in _ ⟨by omega,by omega⟩]
      rfl
     ·rw [i3,mem_take_succ hk]
      refine ⟨fun h=>h.elim .inl (fun h=>.inr (.inl h)),fun h=>h.elim .inl (fun h=>h.elim .inr (fun h=> ?_))⟩
      rw [h];exact (i3 x).1 hm
     ·rw [i4,mem_take_succ hk]
      refine ⟨fun h=>⟨.inl h.1,h.2⟩,fun h=>⟨h.1.elim id (fun e=> ?_),h.2⟩⟩
      rw [e]
      exact ((i3 x).1 hm).elim (fun h2=>absurd (e▸h2) h.2) id
    ·refine ⟨(insI s.1 x,insI s.2 x),?_,insI_nodup i1 x,insI_nodup i2 x,fun z=> ?_,fun z=> ?_⟩
     ·simp only
      unfold ring_Reach_l91
      rw [if_pos (by simpa using hlt),aP hlt,hx]
      simp only [Option.bind_some]
      rw [ah hx64,if_pos (by simpa using hm),ah ⟨hx64,by omega⟩,ah ⟨hx64,by omega⟩,IntWalk.i64_in _ ⟨by omega,by omega⟩]
      rfl
     ·rw [insI_mem,i3,mem_take_succ hk]
      constructor
      ·rintro (h|h|h)
       ·exact .inr (.inr h)
       ·exact .inl h
       ·exact .inr (.inl h)
      ·rintro (h|h|h)
       ·exact .inr (.inl h)
       ·exact .inr (.inr h)
       ·exact .inl h
     ·rw [insI_mem,i4,mem_take_succ hk]
      constructor
      ·rintro (h|h)
       ·refine ⟨.inr h,fun h2=>hm ((i3 x).2 (.inl (h▸h2)))⟩
       ·exact ⟨.inl h.1,h.2⟩
      ·rintro ⟨h|h,h2⟩
       ·exact .inr ⟨h,h2⟩
       ·exact .inl h)
  (fun s _=>by
    simp only
    unfold ring_Reach_l91
    rw [if_neg (by simp)]) (had,[]) ⟨hn,List.nodup_nil,fun x=>by simp,fun x=>by simp⟩
 rw [List.take_length] at g4 g5
 exact ⟨y.1,y.2,g1,g2,g3,g4,g5⟩
theorem reach_in2 {l:Locks} (hl:LOk l) (hs:LSm l) {had todo:List Int} (hn:todo.Nodup) (h1: ∀x∈todo,x∈uniL l):
 ∃row:List Int,loop (fun (s6537:Int×(List Int)×(List Int))=>ring_Reach_l92 l (had,todo) s6537.1 s6537.2.1 s6537.2.2) ((0:Int),todo,([]:(List Int)))=some ([],row)∧
  (∀x,x∈row↔ ∃t∈todo,EdgeL l t x)∧row.length≤8000000000000:=by
 have hul:=uniL_len l
 have s1:=hs.1
 have ht:todo.length≤(uniL l).length:=nodup_len hn h1
 have hml:(todo.mergeSort leI).length=todo.length:=List.length_mergeSort ..
 have hnq:(todo.mergeSort leI).Nodup:=(List.mergeSort_perm todo leI).nodup_iff.2 hn
 obtain ⟨y,g1,g2,g3,g4⟩:=invl_loop (ρ:=List Int×List Int) (todo.mergeSort leI) (fun k (s:List Int×List Int)=>((k:Int),s.1,s.2)) (fun (s6537:Int×(List Int)×(List Int))=>ring_Reach_l92 l (had,todo) s6537.1 s6537.2.1 s6537.2.2) (fun s=>s)
  (fun k s=>(∀x,x∈s.1↔x∈(todo.mergeSort leI).drop k)∧(∀x,x∈s.2↔ ∃t∈(todo.mergeSort leI).take k,EdgeL l t x)∧s.2.length≤k*(l.Held.length+l.Queue.length))
  (fun k x s hk hi=>by
    have hlt:=(List.getElem?_eq_some_iff.1 hk).1
    have hx:=(List.getElem?_eq_some_iff.1 hk).2
    obtain ⟨i1,i2,i3⟩:=hi
    have hxt:x∈todo:=by have:=List.mem_of_getElem? hk;rwa [List.mem_mergeSort] at this
    have hx64:=uni_in hl (h1 x hxt)
    have hal:=afterM_len (l:=l) x
    have hmul:k*(l.Held.length+l.Queue.length)≤2000000*2000000:=Nat.mul_le_mul (by omega) s1
    refine ⟨(delI s.1 x,s.2++afterM l x),?_,fun z=> ?_,fun z=> ?_,?_⟩
    ·simp only
     unfold ring_Reach_l92
     rw [if_pos (by simp only [decide_eq_true_eq];omega),aP hlt,hx]
     simp only [Option.bind_some]
     rw [ah hx64,reach1_eq hl hs]
     simp only [Option.bind_some]
     rw [ah (by omega),IntWalk.i64_in _ ⟨by omega,by omega⟩]
     rfl
    ·rw [delI_mem,i1,List.drop_eq_getElem_cons hlt,hx,List.mem_cons]
     have hnd:x∉(todo.mergeSort leI).drop (k+1):=by
      have h:=hnq.sublist (List.drop_sublist k _)
      rw [List.drop_eq_getElem_cons hlt,hx] at h
      exact (List.nodup_cons.1 h).1
     constructor
     ·rintro ⟨h|h,h2⟩
      ·exact absurd h h2
      ·exact h
     ·intro h
      exact ⟨.inr h,fun e=>hnd (e▸h)⟩
    ·rw [List.mem_append,i2,afterM_mem]
     constructor
     ·rintro (⟨t,h,h2⟩|h)
      ·exact ⟨t,(mem_take_succ hk t).2 (.inl h),h2⟩
      ·exact ⟨x,(mem_take_succ hk x).2 (.inr rfl),h⟩
     ·rintro ⟨t,h,h2⟩
      rcases (mem_take_succ hk t).1 h with h|rfl
      ·exact .inl ⟨t,h,h2⟩
      ·exact .inr h2
    ·rw [List.length_append,Nat.succ_mul];omega)
  (fun s _=>by
    simp only
    unfold ring_Reach_l92
    rw [if_neg (by simp)]) (todo,[]) ⟨fun x=>by simp,fun x=>by simp,by simp⟩
 have e1:y.1=[]:=List.eq_nil_iff_forall_not_mem.2 (fun x hx=>by
  have h:=(g2 x).1 hx
  rw [List.drop_length] at h
  cases h)
 rw [List.take_length] at g3
 refine ⟨y.2,?_,fun x=> ?_,?_⟩
 ·exact g1.trans (congrArg some (show y=([],y.2) from Prod.ext e1 rfl))
 ·rw [g3]
  constructor
  ·rintro ⟨t,h,h2⟩;exact ⟨t,by rwa [List.mem_mergeSort] at h,h2⟩
  ·rintro ⟨t,h,h2⟩;exact ⟨t,by rwa [List.mem_mergeSort],h2⟩
 ·have hmul:(todo.mergeSort leI).length*(l.Held.length+l.Queue.length)≤2000000*2000000:=Nat.mul_le_mul (by omega) s1
  omega
structure Good (l:Locks) (t:Int) (had row:List Int):Prop where
 nd:had.Nodup
 h1: ∀x∈had,RchL l t x
 h2: ∀x∈row,RchL l t x
 h3: ∀x,EdgeL l t x→x∈had∨x∈row
 h4: ∀x∈had,∀y,EdgeL l x y→y∈had∨y∈row
 len:row.length≤8000000000000
theorem good_end {l:Locks} {t:Int} {had:List Int} (g:Good l t had []) (x:Int):x∈had↔RchL l t x:=by
 refine ⟨g.h1 x,fun h=> ?_⟩
 induction h with
 |one h=>exact (g.h3 _ h).elim id (fun h=>by cases h)
 |more _ h ih=>exact (g.h4 _ ih _ h).elim id (fun h=>by cases h)
theorem same0:ring_Reach_l97=ring_Reach_l91:=rfl
theorem same1:ring_Reach_l98=ring_Reach_l92:=rfl
theorem round {l:Locks} (hl:LOk l) (hs:LSm l) {t:Int} {had row:List Int} (g:Good l t had row) (hr:row≠[]) (other:List Int):
 ∃had2 row2,cq l 0 had [] row other=some (.inl (1,had2,[],row,row2))∧cq l 1 had [] other row=some (.inl (0,had2,[],row2,row))∧Good l t had2 row2∧(row2=[]∨had.length<had2.length):=by
 have hul:=uniL_len l
 have s1:=hs.1
 have hu2: ∀x∈row,x∈uniL l:=fun x hx=>rch_uni (g.h2 x hx)
 obtain ⟨had2,todo,a1,a2,a3,a4,a5⟩:=reach_in1 hl hs g.nd (fun x hx=>rch_uni (g.h1 x hx)) hu2 g.len
 have htu: ∀x∈todo,x∈uniL l:=fun x hx=>hu2 x ((a5 x).1 hx).1
 obtain ⟨row2,b1,b2,b3⟩:=reach_in2 (had:=had2) hl hs a3 htu
 have htl:todo.length≤(uniL l).length:=nodup_len a3 htu
 have hpos:=List.length_pos_iff.2 hr
 refine ⟨had2,row2,?_,?_,⟨a2,fun x hx=> ?_,fun x hx=> ?_,fun x hx=> ?_,fun x hx y hy=> ?_,b3⟩,?_⟩
 ·unfold cq
  rw [ah (by omega),if_pos (by decide),if_pos (by simp only [decide_eq_true_eq];omega)]
  simp only [Option.bind_some]
  rw [a1]
  simp only [Option.bind_some]
  rw [ah (by omega),b1]
  rfl
 ·unfold cq
  rw [same0,same1,ah (by omega),if_neg (by decide),if_pos (by simp only [decide_eq_true_eq];omega)]
  simp only [Option.bind_some]
  rw [a1]
  simp only [Option.bind_some]
  rw [ah (by omega),b1]
  rfl
 ·exact ((a4 x).1 hx).elim (g.h1 x) (g.h2 x)
 ·obtain ⟨z,hz,he⟩:=(b2 x).1 hx
  exact .more (g.h2 z ((a5 z).1 hz).1) he
 ·exact .inl ((a4 x).2 (g.h3 x hx))
 ·rcases (a4 x).1 hx with h|h
  ·exact .inl ((a4 y).2 (g.h4 x h y hy))
  ·by_cases hh:x∈had
   ·exact .inl ((a4 y).2 (g.h4 x hh y hy))
   ·exact .inr ((b2 y).2 ⟨x,(a5 x).2 ⟨h,hh⟩,hy⟩)
 ·by_cases ht:todo=[]
  ·left
   refine List.eq_nil_iff_forall_not_mem.2 (fun x hx=> ?_)
   obtain ⟨z,hz,_⟩:=(b2 x).1 hx
   rw [ht] at hz;cases hz
  ·right
   obtain ⟨z,hz⟩:=mem_ne.2 ht
   have hz2:=(a5 z).1 hz
   have:=nodup_len (a:=z::had) (u:=had2) (List.nodup_cons.2 ⟨hz2.2,g.nd⟩) (fun x hx=>by
    rcases List.mem_cons.1 hx with rfl|hx
    ·exact (a4 _).2 (.inr hz2.1)
    ·exact (a4 _).2 (.inl hx))
   simp only [List.length_cons] at this
   omega
theorem reach_stop (l:Locks) (had other:List Int):cq l 0 had [] [] other=some (.inr had)∧cq l 1 had [] other []=some (.inr had):=by
 constructor
 ·unfold cq
  rw [ah (by omega),if_pos (by decide),if_neg (by simp)]
  rfl
 ·unfold cq
  rw [ah (by omega),if_neg (by decide),if_neg (by simp)]
  rfl
theorem reach_out {l:Locks} (hl:LOk l) (hs:LSm l) {t:Int}: ∀(m:Nat) (had row other:List Int),(uniL l).length<had.length+m→Good l t had row→
 (∃h2,loop (fun (s6093:Int×(List Int)×(List Int)×(List Int)×(List Int))=>cq l s6093.1 s6093.2.1 s6093.2.2.1 s6093.2.2.2.1 s6093.2.2.2.2) ((0:Int),had,([]:List Int),row,other)=some h2∧Good l t h2 [])∧
 (∃h2,loop (fun (s6093:Int×(List Int)×(List Int)×(List Int)×(List Int))=>cq l s6093.1 s6093.2.1 s6093.2.2.1 s6093.2.2.2.1 s6093.2.2.2.2) ((1:Int),had,([]:List Int),other,row)=some h2∧Good l t h2 []):=by
 intro m
 induction m with
 |zero=>
  intro had row other hm g
  have:=nodup_len g.nd (fun x hx=>rch_uni (g.h1 x hx))
  omega
 |succ m ih=>
  intro had row other hm g
  by_cases hr:row=[]
  ·subst hr
   exact ⟨⟨had,aF (reach_stop l had other).1,g⟩,⟨had,aF (reach_stop l had other).2,g⟩⟩
  ·obtain ⟨had2,row2,e1,e2,g2,e3⟩:=round hl hs g hr other
   rcases e3 with rfl|e3
   ·exact ⟨⟨had2,(bz e1).trans (aF (reach_stop l had2 row).2),g2⟩,⟨had2,(bz e2).trans (aF (reach_stop l had2 row).1),g2⟩⟩
   ·obtain ⟨⟨p,p1,p2⟩,⟨q,q1,q2⟩⟩:=ih had2 row2 row (by omega) g2
    exact ⟨⟨q,(bz e1).trans q1,q2⟩,⟨p,(bz e2).trans p1,p2⟩⟩
theorem reach_eq {l:Locks} (hl:LOk l) (hs:LSm l) (t:Int):ring_Reach l t=some (reachM l t):=by
 have hul:=uniL_len l
 have s1:=hs.1
 have hal:=afterM_len (l:=l) t
 obtain ⟨⟨h2,e1,g⟩,_⟩:=reach_out hl hs (t:=t) ((uniL l).length+1) [] (afterM l t) [] (by simp) ⟨List.nodup_nil,fun x hx=>(by cases hx),fun x hx=>.one ((afterM_mem l t x).1 hx),fun x hx=>.inr ((afterM_mem l t x).2 hx),fun x hx=>(by cases hx),by omega⟩
 unfold ring_Reach
 rw [reach1_eq hl hs]
 simp only [Option.bind_some]
 rw [e1]
 simp only [Option.bind_some]
 have hl2:=nodup_len g.nd (fun x hx=>rch_uni (g.h1 x hx))
 rw [ah (by omega)]
 have e:reachM l t=h2.mergeSort leI:=srt_unique (setM_srt _ _) g.nd (fun x=>by rw [good_end g x];exact reachM_mem l t x)
 rw [e]
end Go.Ab
namespace Go.Ab
set_option linter.unusedVariables false
set_option linter.unusedSimpArgs false
theorem contains_eq {l:List Int} (hl:l.length≤1099511627776) (v:Int):slices_Contains_int l v=some (decide (v∈l)):=by
 unfold slices_Contains_int slices_Index_int
 rcases find_loop l (fun x=>decide (v=x)) (fun k=>(.inl (k:Int):Int⊕Unit)) (.inr ()) (fun (s57:Int)=>slices_Index_int_l2 l v s57) (by omega) (fun k x hk=>by
  have hlt:=(List.getElem?_eq_some_iff.1 hk).1
  unfold slices_Index_int_l2
  rw [if_pos (by simpa using hlt),aP hlt,(List.getElem?_eq_some_iff.1 hk).2,IntWalk.i64_in _ ⟨by omega,by omega⟩]
  by_cases h:v=x<;>simp [h]) (by unfold slices_Index_int_l2;rw [if_neg (by simp)]) with ⟨k,_,h1,h2⟩|⟨h1,h2⟩
 ·rw [h1]
  rw [List.any_eq_true] at h2
  obtain ⟨x,hx,hq⟩:=h2
  have:v∈l:=by have:=of_decide_eq_true hq;rw [this];exact hx
  simp [this]
 ·rw [h1]
  rw [List.any_eq_false] at h2
  have:v∉l:=fun h=>by have:=h2 v h;simp at this
  simp [this]
noncomputable def notBack (l:Locks) (v t:Int):Bool:=by classical exact !decide (RchL l t v)
theorem ring1_eq {l:Locks} (hl:LOk l) (hs:LSm l) (t v:Int):ring_Ring_1 t l v=some (notBack l v t):=by
 have:=reachM_len (l:=l) t
 have s1:=hs.1
 unfold ring_Ring_1
 rw [reach_eq hl hs]
 simp only [Option.bind_some]
 rw [contains_eq (by omega)]
 unfold notBack
 simp only [Option.bind_some,Option.some.injEq]
 by_cases h:RchL l t v
 ·simp [reachM_mem,h]
 ·simp [reachM_mem,h]
theorem delR_eq {l:Locks} (hl:LOk l) (hs:LSm l) {a:List Int} (ha:a.length≤2000000) (v:Int):bW a l v=some (a.filter (fun t=> !notBack l v t)):=by
 unfold bW cQ
 rcases find_first a (notBack l v) (fun k=>(.inl (k:Int):Int⊕Unit)) (.inr ()) (fun (s169:Int)=>bf a l v s169) (fun k x hk=>by
  have hlt:=(List.getElem?_eq_some_iff.1 hk).1
  unfold bf
  rw [if_pos (by simpa using hlt),aP hlt,(List.getElem?_eq_some_iff.1 hk).2,IntWalk.i64_in _ ⟨by omega,by omega⟩]
  simp only [Option.bind_some]
  rw [ring1_eq hl hs]
  rfl) (by unfold bf;rw [if_neg (by simp)]) with ⟨k,x,hk,h1,h2,h3⟩|⟨h1,h3⟩
 ·have hlt:=(List.getElem?_eq_some_iff.1 hk).1
  have hx:=(List.getElem?_eq_some_iff.1 hk).2
  rw [h1]
  simp only [Option.bind_some]
  rw [if_neg (by first|(simp;done)|(simp;omega)),IntWalk.i64_in _ ⟨by omega,by omega⟩]
  obtain ⟨i2,a2,e1,e2,e3,e4⟩:=del_loop a (notBack l v) (fun (s343:Int×Int×(List Int))=>be l v s343.1 s343.2.1 s343.2.2)
   (fun i j a2 x hij ha2 hx=>by
     have hlt:=(List.getElem?_eq_some_iff.1 hx).1
     simp only
     unfold be
     rw [if_pos (by simpa using hlt),aP hlt,(List.getElem?_eq_some_iff.1 hx).2,IntWalk.i64_in ((j:Int)+1) ⟨by omega,by omega⟩,IntWalk.i64_in ((i:Int)+1) ⟨by omega,by omega⟩,aP (show i<a2.length by omega)]
     simp only [Option.bind_some]
     rw [ring1_eq hl hs]
     cases h:notBack l v x<;>simp [h])
   (fun i a2 ha2=>by
     simp only
     unfold be
     rw [if_neg (by simp;omega)])
   (a.length - (k+1)) k (k+1) a (by omega) (by omega) rfl rfl (by
     rw [List.take_succ_eq_append_getElem hlt,List.filter_append,hx]
     have hf:(a.take k).filter (fun h=> !notBack l v h)=a.take k:=List.filter_eq_self.2 (fun y hy=>by simp [h3 y hy])
     rw [hf];simp [List.filter_cons,h2])
  rw [show ((k:Int)+1)=((k+1:Nat):Int) from rfl,e1]
  simp only [Option.bind_some]
  have hn:(((List.map (ax .i64) a2).length:Nat):Int).toNat=a2.length:=by simp
  rw [ah (by omega),ah (by omega),ah (by simp only [List.length_append,List.length_take,List.length_drop,List.length_replicate,hn];omega),ah (by simp only [List.length_append,List.length_take,List.length_drop,List.length_replicate,hn,Int.toNat_natCast];omega)]
  rw [Int.toNat_natCast]
  exact congrArg some ((del_end a2 _ _ i2 (by omega)).trans e4)
 ·rw [h1]
  simp only [Option.bind_some]
  rw [if_pos (by decide)]
  congr 1
  exact (List.filter_eq_self.2 (fun y hy=>by simp [h3 y hy])).symm
theorem notBack_iff (l:Locks) (v t:Int):(!notBack l v t)=true↔RchL l t v:=by
 unfold notBack;simp
theorem ring_filt (l:Locks) (t:Int):(reachM l t).filter (fun x=> !notBack l t x)=ringM l t:=by
 refine setM_eq ((setM_srt _ _).sublist List.filter_sublist) (fun x=> ?_) (fun x h=>rch_uni h.1)
 rw [List.mem_filter,notBack_iff]
 exact ⟨fun h=>⟨(reachM_mem l t x).1 h.1,h.2⟩,fun h=>⟨(reachM_mem l t x).2 h.1,h.2⟩⟩
theorem ring_none {l:Locks} {t:Int} (h: ¬RchL l t t):ringM l t=[]:=
 List.eq_nil_iff_forall_not_mem.2 (fun x hx=>by
  obtain ⟨h1,h2⟩:=(ringM_mem l t x).1 hx
  exact h (h1.trans h2))
theorem ring_eq {l:Locks} (hl:LOk l) (hs:LSm l) (t:Int):ring_Ring l t=some (ringM l t):=by
 have hrl:=reachM_len (l:=l) t
 have s1:=hs.1
 unfold ring_Ring
 rw [reach_eq hl hs]
 simp only [Option.bind_some]
 rw [contains_eq (by omega)]
 simp only [Option.bind_some]
 by_cases h:RchL l t t
 ·rw [if_neg (by simp [reachM_mem,h]),delR_eq hl hs (by omega),ring_filt]
  rfl
 ·rw [if_pos (by simp [reachM_mem,h]),ring_none h]
def lastM (l:List Int):Int:=l.getD (l.length - 1) 0
theorem last_mem {l:List Int} (h:l≠[]):lastM l∈l:=by
 have hp:=List.length_pos_iff.2 h
 unfold lastM
 rw [List.getD_eq_getElem?_getD,List.getElem?_eq_getElem (show l.length - 1<l.length by omega)]
 exact List.getElem_mem _
theorem max_eq {l:List Int} (hl:l.length≤1099511627776) (hs:Srt l) (h:l≠[]):slices_Max_int l=some (lastM l):=by
 have hp:=List.length_pos_iff.2 h
 unfold slices_Max_int
 rw [if_neg (by simp;omega),show (0:Int)=((0:Nat):Int) from rfl,aP hp]
 simp only [Option.bind_some]
 have key: ∀(m k:Nat),k+1+m=l.length→(hk:k<l.length)→loop (fun (s41:Int×Int)=>slices_Max_int_l2 l s41.1 s41.2) (l[k],((k+1:Nat):Int))=some (lastM l):=by
  intro m
  induction m with
  |zero=>
   intro k hk hlt
   refine aF ?_
   simp only
   unfold slices_Max_int_l2
   rw [if_neg (by simp;omega)]
   unfold lastM
   rw [List.getD_eq_getElem?_getD,List.getElem?_eq_getElem (show l.length - 1<l.length by omega)]
   simp only [show l.length - 1=k by omega]
   rfl
  |succ m ih=>
   intro k hk hlt
   have hlt2:k+1<l.length:=by omega
   have h2:=List.pairwise_iff_getElem.1 hs k (k+1) hlt hlt2 (by omega)
   rw [bz (s':=(l[k+1],((k+1+1:Nat):Int)))]
   ·exact ih (k+1) (by omega) hlt2
   ·simp only
    unfold slices_Max_int_l2
    rw [if_pos (by simp only [decide_eq_true_eq];omega),aP hlt2]
    simp only [Option.bind_some]
    rw [if_pos h2,IntWalk.i64_in _ ⟨by omega,by omega⟩]
    rfl
 have:=key (l.length - 1) 0 (by omega) hp
 rw [show ((0+1:Nat):Int)=(1:Int) from rfl] at this
 rw [this]
 rfl
noncomputable def victM (l:Locks) (t:Int):Int×Bool:=if ringM l t=[] then (0,false) else (lastM (ringM l t),true)
theorem ringM_len (l:Locks) (t:Int):(ringM l t).length≤l.Held.length+l.Queue.length:=by
 have:=setM_len (uniL l) (fun x=>RchL l t x∧RchL l x t)
 rw [uniL_len] at this;exact this
theorem victim_eq {l:Locks} (hl:LOk l) (hs:LSm l) (t:Int):ring_Victim l t=some (victM l t):=by
 have hrl:=ringM_len l t
 have s1:=hs.1
 unfold ring_Victim victM
 rw [ring_eq hl hs]
 simp only [Option.bind_some]
 by_cases h:ringM l t=[]
 ·rw [if_pos (show decide (((ringM l t).length:Int)=0)=true by simp [h]),if_pos h]
 ·have hp:=List.length_pos_iff.2 h
  rw [if_neg (show ¬decide (((ringM l t).length:Int)=0)=true by simp only [decide_eq_true_eq];omega),if_neg h,max_eq (by omega) (show Srt (ringM l t) from setM_srt _ _) h]
  rfl
end Go.Ab
namespace Go.Ab
set_option linter.unusedVariables false
set_option linter.unusedSimpArgs false
theorem edge_from {l:Locks} {t b:Int} (h:EdgeL l t b): ∃c∈l.Queue,c.Txn=t:=by
 obtain ⟨i,c,h1,h2,_⟩:=h
 exact ⟨c,List.mem_of_getElem? h1,h2⟩
theorem rch_from {l:Locks} {t b:Int} (h:RchL l t b): ∃c∈l.Queue,c.Txn=t:=by
 induction h with
 |one h=>exact edge_from h
 |more _ _ ih=>exact ih
theorem rch_mono {l k:Locks} (h: ∀a b,EdgeL k a b→EdgeL l a b) {t b:Int} (hr:RchL k t b):RchL l t b:=by
 induction hr with
 |one h2=>exact .one (h _ _ h2)
 |more _ h2 ih=>exact .more ih (h _ _ h2)
theorem filt_idx {α:Type} (q:α→Bool): ∀(l:List α) (i:Nat) (c:α),(l.filter q)[i]? =some c→ ∃j:Nat,l[j]? =some c∧ ∀x∈(l.filter q).take i,x∈l.take j
 |[],i,c,h=>by simp at h
 |y::r,i,c,h=>by
  by_cases hy:q y=true
  ·rw [List.filter_cons,if_pos hy] at h⊢
   cases i with
   |zero=>exact ⟨0,by simpa using h,by simp⟩
   |succ i=>
    obtain ⟨j,h1,h2⟩:=filt_idx q r i c (by simpa using h)
    refine ⟨j+1,by simpa using h1,fun x hx=> ?_⟩
    rw [List.take_succ_cons,List.mem_cons] at hx⊢
    exact hx.elim .inl (fun h=>.inr (h2 x h))
  ·rw [List.filter_cons,if_neg hy] at h⊢
   obtain ⟨j,h1,h2⟩:=filt_idx q r i c h
   refine ⟨j+1,by simpa using h1,fun x hx=> ?_⟩
   rw [List.take_succ_cons,List.mem_cons]
   exact .inr (h2 x hx)
theorem edge_less (l:Locks) (v a b:Int) (h:EdgeL (lessL l v) a b):EdgeL l a b:=by
 obtain ⟨i,c,h1,h2,h3⟩:=h
 obtain ⟨j,g1,g2⟩:=filt_idx _ _ _ _ h1
 refine ⟨j,c,g1,h2,?_⟩
 rw [blockS_mem] at h3⊢
 rcases h3 with ⟨x,hx,hr⟩|⟨x,hx,hr⟩
 ·exact .inl ⟨x,(List.mem_filter.1 hx).1,hr⟩
 ·exact .inr ⟨x,g2 x hx,hr⟩
theorem edge_grant (l:Locks) (k:Nat) (hk:k<l.Queue.length) (hf:freeI l k=true) (a b:Int) (h:EdgeL (grantM l k) a b):EdgeL l a b:=by
 obtain ⟨i,c,h1,h2,h3⟩:=h
 rw [freeI_at hk] at hf
 have hb:dv l l.Queue[k].Txn l.Queue[k].W k=[]:=by simpa using hf
 have hcl:=claim_at hk
 rw [blockS_mem] at h3
 unfold grantM at h1 h3
 simp only at h1 h3
 have hlt:(l.Queue.take k).length=k:=by rw [List.length_take];omega
 by_cases hik:i<k
 ·have e1:l.Queue[i]? =some c:=by
   rw [List.getElem?_append_left (by omega),List.getElem?_take,if_pos hik] at h1
   exact h1
  refine ⟨i,c,e1,h2,(blockS_mem ..).2 ?_⟩
  rcases h3 with ⟨x,hx,r1,r2,r3⟩|⟨x,hx,hr⟩
  ·rcases List.mem_append.1 hx with hx|hx
   ·exact .inl ⟨x,hx,r1,r2,r3⟩
   ·exfalso
    rw [hcl] at hx
    simp only [List.mem_singleton] at hx
    subst hx
    simp only at r1 r3
    have:c.Txn∈dv l l.Queue[k].Txn l.Queue[k].W k:=by
     rw [blockS_mem]
     refine .inr ⟨c,?_,rfl,fun e=>r2 (by rw [←r1,←e,h2]),by rw [clash_comm];exact r3⟩
     rw [List.mem_take_iff_getElem]
     exact ⟨i,by omega,(List.getElem?_eq_some_iff.1 e1).2⟩
    rw [hb] at this;cases this
  ·rw [List.take_append_of_le_length (by omega),List.take_take] at hx
   rw [show min i k=i by omega] at hx
   exact .inr ⟨x,hx,hr⟩
 ·have e1:l.Queue[i+1]? =some c:=by
   rw [List.getElem?_append_right (by omega),List.getElem?_drop,hlt] at h1
   rw [show k+1+(i - k)=i+1 by omega] at h1
   exact h1
  refine ⟨i+1,c,e1,h2,(blockS_mem ..).2 ?_⟩
  rcases h3 with ⟨x,hx,r1,r2,r3⟩|⟨x,hx,hr⟩
  ·rcases List.mem_append.1 hx with hx|hx
   ·exact .inl ⟨x,hx,r1,r2,r3⟩
   ·rw [hcl] at hx
    simp only [List.mem_singleton] at hx
    subst hx
    refine .inr ⟨l.Queue[k],?_,r1,r2,r3⟩
    rw [List.mem_take_iff_getElem]
    exact ⟨k,by omega,rfl⟩
  ·refine .inr ⟨x,?_,hr⟩
   rw [List.take_append,hlt] at hx
   rcases List.mem_append.1 hx with hx|hx
   ·rw [List.take_take] at hx
    exact (List.take_sublist_take_left (by omega)).subset hx
   ·obtain ⟨n,hn,rfl⟩:=List.mem_take_iff_getElem.1 hx
    rw [List.length_drop] at hn
    rw [List.mem_take_iff_getElem]
    exact ⟨k+1+n,by omega,by rw [List.getElem_drop]⟩
theorem edge_settle (n:Nat): ∀(l:Locks) (out:List Int) (a b:Int),EdgeL (cY n l out).1 a b→EdgeL l a b:=by
 induction n with
 |zero=>intro l out a b h;exact h
 |succ n ih=>
  intro l out a b h
  unfold cY at h
  cases hf:(List.range l.Queue.length).find? (freeI l) with
  |none=>rw [hf] at h;exact h
  |some k=>
   rw [hf] at h
   have hk:k<l.Queue.length:=by have:=List.mem_of_find?_eq_some hf;simpa using this
   exact edge_grant l k hk (List.find?_some hf) a b (ih _ _ a b h)
theorem edge_free (l:Locks) (v a b:Int) (h:EdgeL (bZ l v).1 a b):EdgeL l a b:=edge_less l v a b (edge_settle _ _ _ a b h)
theorem free_gone {l:Locks} {v x:Int}: ¬RchL (bZ l v).1 v x:=by
 intro h
 obtain ⟨c,hc,hc2⟩:=rch_from h
 obtain ⟨g,e1,e2,e3,e4⟩:=settle_parts ((lessL l v).Queue.length+1) (lessL l v) []
 have:=(List.mem_filter.1 (e4.subset hc)).2
 simp [hc2] at this
theorem free_ok {l:Locks} (hl:LOk l) (hs:LSm l) (v:Int):LOk (bZ l v).1∧LSm (bZ l v).1∧(bZ l v).1.Held.length+(bZ l v).1.Queue.length≤l.Held.length+l.Queue.length:=by
 obtain ⟨k1,k2,k3⟩:=less_ok2 hl v
 have s1:=hs.1
 have s2:=hs.2
 have hlen: ∀n (l:Locks) out,(cY n l out).1.Held.length+(cY n l out).1.Queue.length=l.Held.length+l.Queue.length∧(cY n l out).1.Queue.length≤l.Queue.length:=by
  intro n
  induction n with
  |zero=>intro l out;exact ⟨rfl,Nat.le_refl _⟩
  |succ n ih=>
   intro l out
   unfold cY
   cases hf:(List.range l.Queue.length).find? (freeI l) with
   |none=>exact ⟨rfl,Nat.le_refl _⟩
   |some k=>
    have hk:k<l.Queue.length:=by have:=List.mem_of_find?_eq_some hf;simpa using this
    simp only
    obtain ⟨h1,h2⟩:=ih (grantM l k) (out++[(claimAt l k).Txn])
    have e1:(grantM l k).Held.length=l.Held.length+1:=by unfold grantM;simp
    have e2:(grantM l k).Queue.length+1=l.Queue.length:=by
     unfold grantM
     simp only [List.length_append,List.length_take,List.length_drop];omega
    exact ⟨by omega,by omega⟩
 have h:=hlen ((lessL l v).Queue.length+1) (lessL l v) []
 have h1:(bZ l v).1.Held.length+(bZ l v).1.Queue.length=(lessL l v).Held.length+(lessL l v).Queue.length:=h.1
 have h2:(bZ l v).1.Queue.length≤(lessL l v).Queue.length:=h.2
 have hmul:(bZ l v).1.Queue.length*((bZ l v).1.Held.length+(bZ l v).1.Queue.length)≤l.Queue.length*(l.Held.length+l.Queue.length):=Nat.mul_le_mul (by omega) (by omega)
 exact ⟨settleF_ok _ _ _ k1 (by omega),⟨by omega,by omega⟩,by omega⟩
theorem ring_less {l:Locks} {v t:Int} (hv:v∈ringM l t):(ringM (bZ l v).1 t).length<(ringM l t).length:=by
 have hsub: ∀x∈ringM (bZ l v).1 t,x∈ringM l t:=fun x hx=>by
  obtain ⟨h1,h2⟩:=(ringM_mem _ _ _).1 hx
  exact (ringM_mem _ _ _).2 ⟨rch_mono (edge_free l v) h1,rch_mono (edge_free l v) h2⟩
 have hnv:v∉ringM (bZ l v).1 t:=fun hx=>free_gone ((ringM_mem _ _ _).1 hx).2
 have:=nodup_len (a:=v::ringM (bZ l v).1 t) (u:=ringM l t) (List.nodup_cons.2 ⟨hnv,srt_nodup (setM_srt _ _)⟩) (fun x hx=>by
  rcases List.mem_cons.1 hx with rfl|hx
  ·exact hv
  ·exact hsub x hx)
 simp only [List.length_cons] at this
 omega
end Go.Ab
namespace Go.Ab
set_option linter.unusedVariables false
set_option linter.unusedSimpArgs false
def wa:Want:=⟨2,[97],[97,0]⟩
def wb:Want:=⟨2,[98],[98,0]⟩
def lk4:Locks:=⟨[⟨1,wa⟩,⟨2,wb⟩],[⟨1,wb,9⟩,⟨2,wa,9⟩]⟩
end Go.Ab
namespace Go.Ab
set_option linter.unusedVariables false
set_option linter.unusedSimpArgs false
def fg (n:Nat):Str:=if n=0 then [] else fg (n / 10)++[UInt8.ofNat (48+n%10)]
decreasing_by omega
theorem fg_zero:fg 0=[]:=by unfold fg;rfl
theorem fg_pos {n:Nat} (h:0<n):fg n=fg (n / 10)++[UInt8.ofNat (48+n%10)]:=by
 conv=>lhs;unfold fg
 rw [if_neg (by omega)]
def numS (n:Nat):Str:=fg (n / 10)++[UInt8.ofNat (48+n%10),59]
theorem fg_len: ∀(k n:Nat),n<10^k→(fg n).length≤k
 |0,n,h=>by have:n=0:=by simp at h;omega
            subst this;rw [fg_zero];simp
 |k+1,n,h=>by
  rcases Nat.eq_zero_or_pos n with h0|h0
  ·subst h0;rw [fg_zero];simp
  ·rw [fg_pos h0,List.length_append]
   have:=fg_len k (n / 10) (by rw [Nat.div_lt_iff_lt_mul (by decide)];rwa [Nat.pow_succ] at h)
   simp;omega
theorem u64_in {n:Int} (h0:0≤n) (h1:n≤18446744073709551615):IntKind.u64.wrap n=n:=by
 simp only [IntKind.wrap,IntKind.signed,IntKind.bits]
 simp;omega
theorem u8_in {n:Int} (h0:0≤n) (h1:n≤255):IntKind.u8.wrap n=n:=by
 simp only [IntKind.wrap,IntKind.signed,IntKind.bits]
 simp;omega
theorem fig_eq (n:Nat):u8 (IntKind.u8.wrap (48+(IntKind.u8.wrap (Int.tmod (n:Int) 10))))=UInt8.ofNat (48+n%10):=by
 have h:Int.tmod (n:Int) 10=((n%10:Nat):Int):=by rw [Int.tmod_eq_emod_of_nonneg (by omega)];omega
 rw [h,u8_in (n:=((n%10:Nat):Int)) (by omega) (by omega),u8_in (by omega) (by omega)]
 unfold u8
 congr 1
theorem quo_eq {n:Nat} (h:n≤18446744073709551615):IntKind.u64.wrap (Int.tdiv (n:Int) 10)=((n / 10:Nat):Int):=by
 have e:Int.tdiv (n:Int) 10=((n / 10:Nat):Int):=by rw [Int.tdiv_eq_ediv_of_nonneg (by omega)];omega
 rw [e,u64_in (by omega) (by omega)]
theorem num_loop: ∀(k n:Nat) (l:List Int) (at_:Nat),n<10^(k+1)→n≤18446744073709551615→l.length=21→k+1≤at_→at_≤20→
 loop (fun (s:Int×Int×(List Int))=>dec_Num_l1 s.1 s.2.1 s.2.2) ((n:Int),(at_:Int),l)=some (fg (n / 10)++[UInt8.ofNat (48+n%10)]++(l.drop at_).map u8):=by
 have base: ∀(n:Nat) (l:List Int) (at_:Nat),n≤18446744073709551615→l.length=21→1≤at_→at_≤20→
  dec_Num_l1 (n:Int) (at_:Int) l=if n / 10=0 then some (.inr (UInt8.ofNat (48+n%10)::(l.drop at_).map u8)) else some (.inl (((n / 10:Nat):Int),((at_ - 1:Nat):Int),l.set (at_ - 1) (IntKind.u8.wrap (48+(IntKind.u8.wrap (Int.tmod (n:Int) 10)))))):=by
  intro n l at_ h hl h1 h2
  have e:IntKind.i64.wrap ((at_:Int) - 1)=((at_ - 1:Nat):Int):=by rw [IntWalk.i64_in _ ⟨by omega,by omega⟩];omega
  have et:(((at_ - 1:Nat):Int)).toNat=at_ - 1:=by omega
  unfold dec_Num_l1
  rw [ah hl,e,quo_eq h,et,ix_get (by omega)]
  simp only [Option.bind_some]
  by_cases h0:n / 10=0
  ·rw [if_pos (show decide (((n / 10:Nat):Int)=0)=true by simp;omega),if_pos h0,ah (by simpa using hl),ah (by omega)]
   congr 2
   unfold cut
   rw [et,List.take_of_length_le (by simp;omega),List.drop_eq_getElem_cons (by simp;omega)]
   simp only [List.map_cons,List.getElem_set_self]
   rw [fig_eq]
   congr 2
   have:at_ - 1+1=at_:=by omega
   rw [this,List.drop_set_of_lt (by omega)]
  ·rw [if_neg (show ¬decide (((n / 10:Nat):Int)=0)=true by simp;omega),if_neg h0]
 intro k
 induction k with
 |zero=>
  intro n l at_ h h2 hl h3 h4
  have h0:n / 10=0:=by simp at h;omega
  rw [aF (r:=UInt8.ofNat (48+n%10)::(l.drop at_).map u8)]
  ·rw [h0,fg_zero];simp
  ·simp only;rw [base n l at_ h2 hl (by omega) h4,if_pos h0]
 |succ k ih=>
  intro n l at_ h h2 hl h3 h4
  by_cases h0:n / 10=0
  ·rw [aF (r:=UInt8.ofNat (48+n%10)::(l.drop at_).map u8)]
   ·rw [h0,fg_zero];simp
   ·simp only;rw [base n l at_ h2 hl (by omega) h4,if_pos h0]
  ·rw [bz (s':=(((n / 10:Nat):Int),((at_ - 1:Nat):Int),l.set (at_ - 1) (IntKind.u8.wrap (48+(IntKind.u8.wrap (Int.tmod (n:Int) 10))))))]
   ·rw [ih (n / 10) _ (at_ - 1) (by rw [Nat.div_lt_iff_lt_mul (by decide)];rwa [Nat.pow_succ] at h) (by omega) (by simpa using hl) (by omega) (by omega)]
    rw [List.drop_eq_getElem_cons (by simp;omega)]
    simp only [List.map_cons,List.getElem_set_self]
    rw [fig_eq,←fg_pos (by omega)]
    have:at_ - 1+1=at_:=by omega
    rw [this,List.drop_set_of_lt (by omega)]
    simp
   ·simp only;rw [base n l at_ h2 hl (by omega) h4,if_neg h0]
theorem num_eq {n:Nat} (h:n≤18446744073709551615):dec_Num (n:Int)=some (numS n):=by
 unfold dec_Num
 rw [ah (by simp),show (20:Int)=((20:Nat):Int) from rfl,ix_get (by simp)]
 simp only [Option.bind_some]
 rw [num_loop 19 n _ 20 (by omega) h (by simp) (by omega) (by omega)]
 simp [numS]
 rfl
end Go.Ab
namespace Go.Ab
set_option linter.unusedVariables false
set_option linter.unusedSimpArgs false
def eachF {α σ ρ:Type} (f:Nat→σ→α→σ⊕ρ) (fin:Nat→σ→ρ):Nat→List α→σ→ρ
 |k,[],s=>fin k s
 |k,x::r,s=>match f k s x with| .inl s'=>eachF f fin (k+1) r s'| .inr y=>y
theorem each_loop {α σ ρ τ:Type} (l:List α) (st:Nat→σ→τ) (step:τ→Option (τ⊕ρ)) (f:Nat→σ→α→σ⊕ρ) (fin:Nat→σ→ρ) (I:Nat→σ→Prop)
 (hstep: ∀(k:Nat) x s,l[k]? =some x→I k s→step (st k s)=some (match f k s x with| .inl s'=>.inl (st (k+1) s')| .inr y=>.inr y))
 (hI: ∀(k:Nat) x s s',l[k]? =some x→I k s→f k s x= .inl s'→I (k+1) s')
 (hend: ∀s,I l.length s→step (st l.length s)=some (.inr (fin l.length s))) (s0:σ) (h0:I 0 s0):
 loop step (st 0 s0)=some (eachF f fin 0 l s0):=by
 have key: ∀(r:List α) (k:Nat) (s:σ),k+r.length=l.length→l.drop k=r→I k s→loop step (st k s)=some (eachF f fin k r s):=by
  intro r
  induction r with
  |nil=>
   intro k s hk hd hi
   have:k=l.length:=by simpa using hk
   subst this
   rw [aF (hend s hi)];rfl
  |cons x r ih=>
   intro k s hk hd hi
   have hx:l[k]? =some x:=by
    have:=congrArg (·[0]?) hd
    simpa [List.getElem?_drop] using this
   have hd':l.drop (k+1)=r:=by
    have:=congrArg (List.drop 1) hd
    simpa [List.drop_drop,Nat.add_comm] using this
   have hs:=hstep k x s hx hi
   unfold eachF
   cases hf:f k s x with
   |inl s'=>
    rw [hf] at hs
    rw [bz hs]
    exact ih (k+1) s' (by simp only [List.length_cons] at hk;omega) hd' (hI k x s s' hx hi hf)
   |inr y=>
    rw [hf] at hs
    rw [aF hs]
 exact key l 0 s0 (by simp) rfl h0
theorem ix_at {α:Type} {l:List α} {k:Nat} {x:α} (h:l[k]? =some x):ix l (k:Int)=some x:=by rw [ix_nat,h]
theorem lt_of_at {α:Type} {l:List α} {k:Nat} {x:α} (h:l[k]? =some x):k<l.length:=(List.getElem?_eq_some_iff.1 h).1
def isFig (c:UInt8):Bool:=decide (48≤c.toNat)&&decide (c.toNat≤57)
def figs (s:Str):Str:=s.takeWhile isFig
def valF (v:Nat):Str→Nat
 |[]=>v
 |c::r=>valF (10*v+(c.toNat - 48)) r
def M64:Nat:=18446744073709551616
theorem m64:M64=18446744073709551616:=rfl
def ae (s:Str):Int×Str×Int:=
 if 20<(figs s).length∨(1<(figs s).length∧s[0]? =some 48)∨M64≤valF 0 (figs s) then (0,[],3) else
 match s.drop (figs s).length with
 |[]=>(0,[],2)
 |c::r=>if c≠59∨figs s=[] then (0,[],3) else ((valF 0 (figs s):Int),r,0)
theorem figs_cons (c:UInt8) (r:Str):figs (c::r)=if isFig c then c::figs r else []:=by
 unfold figs;rw [List.takeWhile_cons]
theorem figs_each: ∀(s:Str) (k:Nat),eachF (fun k (_:Unit) (x:UInt8)=>if isFig x then .inl () else .inr (k:Int)) (fun k _=>(k:Int)) k s ()=((k+(figs s).length:Nat):Int)
 |[],k=>by simp [eachF,figs]
 |c::r,k=>by
  unfold eachF
  rw [figs_cons]
  cases h:isFig c with
  |true=>
   simp only [if_true]
   rw [figs_each r (k+1)]
   simp only [List.length_cons]
   omega
  |false=>simp
theorem figs_le (s:Str):(figs s).length≤s.length:=by
 unfold figs;exact (List.takeWhile_sublist _).length_le
theorem figs_all {s:Str}: ∀c∈figs s,isFig c=true:=fun c h=>by
 unfold figs at h
 have:=List.all_takeWhile (p:=isFig) (l:=s)
 rw [List.all_eq_true] at this
 exact this c h
theorem figs_take (s:Str):s.take (figs s).length=figs s:=by
 unfold figs
 exact (List.prefix_iff_eq_take.1 (List.takeWhile_prefix _)).symm
theorem toNat48 (c:UInt8):((c.toNat:Int)=48)↔c=48:=by
 constructor
 ·intro h
  have h2:c.toNat=(48:UInt8).toNat:=by have:(48:UInt8).toNat=48:=rfl;omega
  exact UInt8.toNat_inj.1 h2
 ·intro h;subst h;rfl
theorem toNat59 (c:UInt8):((c.toNat:Int)=59)↔c=59:=by
 constructor
 ·intro h
  have h2:c.toNat=(59:UInt8).toNat:=by have:(59:UInt8).toNat=59:=rfl;omega
  exact UInt8.toNat_inj.1 h2
 ·intro h;subst h;rfl
theorem isFig_iff (c:UInt8):isFig c=true↔(48≤c.toNat∧c.toNat≤57):=by simp [isFig]
theorem dig_eq {c:UInt8} (h:isFig c=true):IntKind.u64.wrap (IntKind.u8.wrap ((c.toNat:Int) - 48))=((c.toNat - 48:Nat):Int):=by
 rw [isFig_iff] at h
 rw [u8_in (by omega) (by omega),u64_in (by omega) (by omega)];omega
theorem valF_ge (l:Str): ∀(v:Nat),v≤valF v l:=by
 induction l with
 |nil=>intro v;exact Nat.le_refl _
 |cons c l ih=>intro v;unfold valF;exact Nat.le_trans (by omega) (ih _)
theorem told_each (s:Str): ∀(v k:Nat),v<M64→
 eachF (fun k (v:Nat) (c:UInt8)=>if M64≤10*v+(c.toNat - 48) then .inr (.inl ()) else .inl (10*v+(c.toNat - 48))) (fun _ v=>(.inr (v:Int):Unit⊕Int)) k s v=
  if valF v s<M64 then .inr (valF v s:Int) else .inl ():=by
 induction s with
 |nil=>
  intro v k hv
  have e:valF v []=v:=rfl
  rw [e,if_pos hv]
  rfl
 |cons c r ih=>
  intro v k hv
  unfold eachF valF
  by_cases hc:M64≤10*v+(c.toNat - 48)
  ·rw [if_pos hc]
   have:=valF_ge r (10*v+(c.toNat - 48))
   rw [if_neg (by omega)]
  ·rw [if_neg hc]
   exact ih _ (k+1) (by omega)
theorem told_eq {s:Str} (h: ∀c∈s,isFig c=true) (hl:s.length≤1000):dec_told s=if valF 0 s<M64 then some ((valF 0 s:Int),true) else some (0,false):=by
 unfold dec_told
 have:=each_loop (σ:=Nat) s (fun k v=>((v:Int),(k:Int))) (fun (s71:Int×Int)=>dec_told_l2 s s71.1 s71.2)
  (fun k (v:Nat) (c:UInt8)=>if M64≤10*v+(c.toNat - 48) then .inr (.inl ()) else .inl (10*v+(c.toNat - 48))) (fun _ v=>(.inr (v:Int):Unit⊕Int)) (fun k v=>v<M64)
  (fun k c v hk hv=>by
    have hlt:=lt_of_at hk
    have hf:=h c (List.mem_of_getElem? hk)
    have hc:=(isFig_iff c).1 hf
    have hm:=m64
    simp only
    unfold dec_told_l2
    rw [if_pos (show decide ((k:Int)<(s.length:Int))=true by simpa using hlt),ix_at hk]
    simp only [Option.bind_some]
    rw [dig_eq hf,u64_in (n:=18446744073709551615 - _) (by omega) (by omega)]
    have e1:Int.tdiv (18446744073709551615 - ((c.toNat - 48:Nat):Int)) 10=(18446744073709551615 - ((c.toNat - 48:Nat):Int)) / 10:=Int.tdiv_eq_ediv_of_nonneg (by omega)
    rw [e1,u64_in (n:=(18446744073709551615 - ((c.toNat - 48:Nat):Int)) / 10) (by omega) (by omega)]
    by_cases hc2:M64≤10*v+(c.toNat - 48)
    ·rw [if_pos (by simp;omega),if_pos hc2]
    ·rw [if_neg (by simp;omega),if_neg hc2,u64_in (n:=10*(v:Int)) (by omega) (by omega),u64_in (n:=10*(v:Int)+_) (by omega) (by omega),IntWalk.i64_in _ ⟨by omega,by omega⟩]
     congr 3<;>omega)
  (fun k c v v' hk hv hf=>by
    split at hf
    ·cases hf
    ·injection hf with hf;omega)
  (fun v hv=>by
    simp only
    unfold dec_told_l2
    rw [if_neg (by simp)]) 0 (by have:=m64;omega)
 simp only [Int.natCast_zero,Int.ofNat_eq_natCast] at this
 rw [this,told_each s 0 0 (by have:=m64;omega)]
 by_cases hc:valF 0 s<M64
 ·rw [if_pos hc,if_pos hc];rfl
 ·rw [if_neg hc,if_neg hc];rfl
end Go.Ab
namespace Go.Ab
set_option linter.unusedVariables false
set_option linter.unusedSimpArgs false
theorem drop_at {s:Str} {n:Nat} (h:n<s.length):s.drop n=s[n]::s.drop (n+1):=List.drop_eq_getElem_cons h
theorem cut_tail {s:Str} {n:Int} (h0:0≤n) (h:n≤s.length):cut s n (s.length:Int)=s.drop n.toNat:=by
 unfold cut;rw [List.take_of_length_le (by omega)]
theorem cut_head (s:Str) (n:Int):cut s 0 n=s.take n.toNat:=by simp [cut]
theorem figs_loop {s:Str} (hl:s.length≤1099511627776):loop (fun (s153:Int)=>dec_TakeNum_l2 s s153) (0:Int)=some ((figs s).length:Int):=by
 have:=each_loop (σ:=Unit) s (fun k _=>(k:Int)) (fun (s153:Int)=>dec_TakeNum_l2 s s153)
  (fun k (_:Unit) (x:UInt8)=>if isFig x then .inl () else .inr (k:Int)) (fun k _=>(k:Int)) (fun _ _=>True)
  (fun k c _ hk _=>by
    have hlt:=lt_of_at hk
    unfold dec_TakeNum_l2
    rw [if_pos (show decide ((k:Int)<(s.length:Int))=true by simpa using hlt),ix_at hk]
    simp only [Option.bind_some]
    rw [IntWalk.i64_in _ ⟨by omega,by omega⟩]
    cases hf:isFig c with
    |true=>
     rw [isFig_iff] at hf
     rw [if_neg (by simp;omega)]
     simp only [Option.bind_some]
     rw [if_neg (by simp;omega)]
     rfl
    |false=>
     have hn: ¬(48≤c.toNat∧c.toNat≤57):=fun h=>by rw [←isFig_iff,hf] at h;cases h
     by_cases h1:(c.toNat:Int)<48
     ·rw [if_pos (by simpa using h1)]
      simp only [Option.bind_some]
      rfl
     ·rw [if_neg (by simpa using h1)]
      simp only [Option.bind_some]
      rw [if_pos (by simp;omega)]
      rfl)
  (fun _ _ _ _ _ _ _=>trivial)
  (fun _ _=>by
    unfold dec_TakeNum_l2
    rw [if_neg (by simp)]) () trivial
 simp only [Int.natCast_zero,Int.ofNat_eq_natCast] at this
 rw [this,figs_each s 0]
 simp
theorem big_form {s:Str} (h:20<(figs s).length):ae s=(0,[],3):=by unfold ae;rw [if_pos (.inl h)]
theorem zero_form {s:Str} (h:1<(figs s).length∧s[0]? =some 48):ae s=(0,[],3):=by unfold ae;rw [if_pos (.inr (.inl h))]
theorem over_form {s:Str} (h:M64≤valF 0 (figs s)):ae s=(0,[],3):=by unfold ae;rw [if_pos (.inr (.inr h))]
theorem more_form {s:Str} (h: ¬(20<(figs s).length∨(1<(figs s).length∧s[0]? =some 48)∨M64≤valF 0 (figs s))) (h2:(figs s).length=s.length):ae s=(0,[],2):=by
 unfold ae;rw [if_neg h,h2,List.drop_length]
theorem odd_form {s:Str} {c:UInt8} (h: ¬(20<(figs s).length∨(1<(figs s).length∧s[0]? =some 48)∨M64≤valF 0 (figs s))) (h2:s[(figs s).length]? =some c) (h3:c≠59∨figs s=[]):ae s=(0,[],3):=by
 obtain ⟨hlt,he⟩:=List.getElem?_eq_some_iff.1 h2
 unfold ae;rw [if_neg h,drop_at hlt,he];simp only;rw [if_pos h3]
theorem good_form {s:Str} (h: ¬(20<(figs s).length∨(1<(figs s).length∧s[0]? =some 48)∨M64≤valF 0 (figs s))) (h2:s[(figs s).length]? =some 59) (h3:figs s≠[]):ae s=((valF 0 (figs s):Int),s.drop ((figs s).length+1),0):=by
 obtain ⟨hlt,he⟩:=List.getElem?_eq_some_iff.1 h2
 unfold ae;rw [if_neg h,drop_at hlt,he];simp only;rw [if_neg (by simpa using h3)]
theorem takeNum_eq {s:Str} (hl:s.length≤1099511627776):dec_TakeNum s=some (ae s):=by
 have hle:=figs_le s
 have hm:=m64
 unfold dec_TakeNum
 rw [figs_loop hl]
 simp only [Option.bind_some]
 by_cases h20:20<(figs s).length
 ·rw [if_pos (by simp;omega),big_form h20]
 ·rw [if_neg (by simp;omega),ah (by omega),cut_head,Int.toNat_natCast,figs_take,told_eq figs_all (by omega)]
  have e48:(if decide (((figs s).length:Int)>1)=true then (ix s 0).bind fun x906=>some (decide ((x906.toNat:Int)=48)) else some false)=some (decide (1<(figs s).length∧s[0]? =some 48)):=by
   by_cases h1:1<(figs s).length
   ·rw [if_pos (by simp;omega),show (0:Int)=((0:Nat):Int) from rfl,ix_get (by omega)]
    simp only [Option.bind_some]
    congr 1
    rw [Bool.eq_iff_iff,decide_eq_true_iff,decide_eq_true_iff,toNat48,List.getElem?_eq_getElem (by omega)]
    simp [h1]
   ·rw [if_neg (by simp;omega)]
    simp [h1]
  by_cases hv:valF 0 (figs s)<M64
  ·rw [if_pos hv]
   simp only [Option.bind_some]
   rw [e48]
   simp only [Option.bind_some]
   by_cases hz:1<(figs s).length∧s[0]? =some 48
   ·rw [if_pos (by simpa using hz),zero_form hz];rfl
   ·rw [if_neg (by simpa using hz),if_neg (by simp)]
    have hno: ¬(20<(figs s).length∨(1<(figs s).length∧s[0]? =some 48)∨M64≤valF 0 (figs s)):=by
     rintro (h|h|h)
     ·exact h20 h
     ·exact hz h
     ·omega
    by_cases hend:(figs s).length=s.length
    ·rw [if_neg (show ¬decide (((figs s).length:Int)<(s.length:Int))=true by simp;omega),more_form hno hend]
     simp only [Option.bind_some]
     rw [if_neg (by simp),if_pos (by simp;omega)]
     rfl
    ·have hlt:(figs s).length<s.length:=by omega
     have hg:=List.getElem?_eq_getElem hlt
     rw [if_pos (show decide (((figs s).length:Int)<(s.length:Int))=true by simp;omega)]
     by_cases h0:figs s=[]
     ·rw [odd_form hno hg (.inr h0),if_pos (by simp [h0])]
      simp only [Option.bind_some]
      rfl
     ·have hpos:0<(figs s).length:=List.length_pos_iff.2 h0
      rw [if_neg (by simp;omega),ix_get hlt]
      simp only [Option.bind_some]
      by_cases hc:s[(figs s).length]=59
      ·rw [hc] at hg
       rw [good_form hno hg h0,if_neg (by simp [hc])]
       rw [if_neg (by simp;omega)]
       simp only [Option.bind_some]
       rw [IntWalk.i64_in _ ⟨by omega,by omega⟩,ah (by omega),cut_tail (by omega) (by omega)]
       rfl
      ·rw [odd_form hno hg (.inl hc),if_pos (by simp [toNat59,hc])]
       simp only [Option.bind_some,if_true]
  ·rw [if_neg hv]
   simp only [Option.bind_some]
   rw [e48,over_form (by omega)]
   simp only [Option.bind_some]
   by_cases hz:1<(figs s).length∧s[0]? =some 48
   ·rw [if_pos (by simpa using hz)];rfl
   ·rw [if_neg (by simpa using hz),if_pos (by simp)];rfl
end Go.Ab
namespace Go.Ab
set_option linter.unusedVariables false
set_option linter.unusedSimpArgs false
theorem takeNumM_nat (s:Str):0≤(ae s).1∧(ae s).1≤18446744073709551615:=by
 have hm:=m64
 unfold ae
 split
 ·exact ⟨Int.le_refl _,by omega⟩
 ·rename_i h
  split
  ·exact ⟨Int.le_refl _,by omega⟩
  ·split
   ·exact ⟨Int.le_refl _,by omega⟩
   ·simp only;omega
theorem cT (s:Str):(ae s).2.1.length≤s.length:=by
 unfold ae
 split
 ·simp
 ·split
  ·simp
  ·rename_i c r h
   split
   ·simp
   ·have:=congrArg List.length h
    simp at this⊢
    omega
def ai (s:Str) (most:Int):Str×Str×Int:=
 if (ae s).2.2≠0 then ([],[],(ae s).2.2) else
 if most<0∨most<(ae s).1 then ([],[],4) else
 if ((ae s).2.1.length:Int)<(ae s).1 then ([],[],2) else
 ((ae s).2.1.take (ae s).1.toNat,(ae s).2.1.drop (ae s).1.toNat,0)
def bM (t:Str):Str:=numS t.length++t
theorem numS_len {n:Nat} (h:n≤18446744073709551615):(numS n).length≤22:=by
 unfold numS
 have:=fg_len 20 (n / 10) (by omega)
 rw [List.length_append]
 simp;omega
theorem text_eq {t:Str} (h:t.length≤1099511627776):dec_Text t=some (bM t):=by
 have hl:=numS_len (n:=t.length) (by omega)
 unfold dec_Text
 rw [u64_in (by omega) (by omega),num_eq (by omega)]
 simp only [Option.bind_some]
 rw [ah (by omega)]
 rfl
theorem takeText_eq {s:Str} (hl:s.length≤1099511627776) {most:Int} (hm: -9223372036854775808≤most∧most≤9223372036854775807):dec_TakeText s most=some (ai s most):=by
 have h1:=takeNumM_nat s
 have h2:=cT s
 unfold dec_TakeText ai
 rw [takeNum_eq hl]
 simp only [Option.bind_some]
 by_cases he:(ae s).2.2=0
 ·rw [if_neg (show ¬(ae s).2.2≠0 by simpa using he),if_neg (show ¬(!decide ((ae s).2.2=0))=true by simp [he])]
  by_cases hmost:most<0∨most<(ae s).1
  ·rw [if_pos hmost,if_pos (show (decide (most<0)||decide ((ae s).1>IntKind.u64.wrap most))=true by
    by_cases h0:most<0
    ·simp [h0]
    ·rw [u64_in (by omega) (by omega)];simp;omega)]
  ·rw [if_neg hmost,u64_in (n:=most) (by omega) (by omega),if_neg (show ¬(decide (most<0)||decide ((ae s).1>most))=true by simp;omega),u64_in (by omega) (by omega)]
   by_cases hr:((ae s).2.1.length:Int)<(ae s).1
   ·rw [if_pos hr,if_pos (show decide ((ae s).1>((ae s).2.1.length:Int))=true by simpa using hr)]
   ·rw [if_neg hr,if_neg (show ¬decide ((ae s).1>((ae s).2.1.length:Int))=true by simpa using hr),ah (by omega),ah (by omega),cut_head,cut_tail (by omega) (by omega)]
 ·rw [if_pos (show (ae s).2.2≠0 from he),if_pos (show (!decide ((ae s).2.2=0))=true by simp [he])]
theorem cu (s:Str) (most:Int):(ai s most).1.length+(ai s most).2.1.length≤s.length:=by
 have h2:=cT s
 unfold ai
 split
 ·simp
 ·split
  ·simp
  ·split
   ·simp
   ·simp;omega
def sumAB (a b:Nat):Str→Nat×Nat
 |[]=>(a,b)
 |c::r=>sumAB ((a+c.toNat) %65521) ((b+(a+c.toNat) %65521) %65521) r
def sumN (s:Str):Nat:=65536*(sumAB 1 0 s).2+(sumAB 1 0 s).1
theorem sumAB_lt (s:Str): ∀(a b:Nat),a<65521→b<65521→(sumAB a b s).1<65521∧(sumAB a b s).2<65521:=by
 induction s with
 |nil=>intro a b ha hb;exact ⟨ha,hb⟩
 |cons c r ih=>intro a b ha hb;unfold sumAB;exact ih _ _ (by omega) (by omega)
theorem sumN_lt (s:Str):sumN s≤4294967295:=by
 have:=sumAB_lt s 1 0 (by omega) (by omega)
 unfold sumN;omega
theorem sum_each (s:Str): ∀(k a b:Nat),eachF (fun k (p:Nat×Nat) (c:UInt8)=>(.inl ((p.1+c.toNat) %65521,(p.2+(p.1+c.toNat) %65521) %65521):(Nat×Nat)⊕(Int×Int))) (fun _ p=>((p.1:Int),(p.2:Int))) k s (a,b)=(((sumAB a b s).1:Int),((sumAB a b s).2:Int)):=by
 induction s with
 |nil=>intro k a b;rfl
 |cons c r ih=>intro k a b;unfold eachF sumAB;exact ih (k+1) _ _
theorem u32_in {n:Int} (h0:0≤n) (h1:n≤4294967295):IntKind.u32.wrap n=n:=by
 simp only [IntKind.wrap,IntKind.signed,IntKind.bits]
 simp;omega
theorem tmod_nat (a b:Nat):Int.tmod (a:Int) (b:Int)=((a%b:Nat):Int):=by
 rw [Int.tmod_eq_emod_of_nonneg (by omega)];omega
theorem u8_lt (c:UInt8):c.toNat<256:=c.toNat_lt
theorem sum_loop {s:Str} (hl:s.length≤1099511627776):loop (fun (s51:Int×Int×Int)=>sum_Of_l2 s s51.1 s51.2.1 s51.2.2) ((0:Int),(1:Int),(0:Int))=some (((sumAB 1 0 s).1:Int),((sumAB 1 0 s).2:Int)):=by
 have:=each_loop (σ:=Nat×Nat) s (fun k p=>((k:Int),(p.1:Int),(p.2:Int))) (fun (s51:Int×Int×Int)=>sum_Of_l2 s s51.1 s51.2.1 s51.2.2)
  (fun k (p:Nat×Nat) (c:UInt8)=>(.inl ((p.1+c.toNat) %65521,(p.2+(p.1+c.toNat) %65521) %65521):(Nat×Nat)⊕(Int×Int))) (fun _ p=>((p.1:Int),(p.2:Int))) (fun _ p=>p.1<65521∧p.2<65521)
  (fun k c p hk hp=>by
    have hlt:=lt_of_at hk
    have hc:=u8_lt c
    simp only
    unfold sum_Of_l2
    rw [if_pos (show decide ((k:Int)<(s.length:Int))=true by simpa using hlt),ix_at hk]
    simp only [Option.bind_some]
    unfold sum_Of_1
    simp only [Option.bind_some]
    rw [IntWalk.i64_in _ ⟨by omega,by omega⟩,u32_in (n:=(c.toNat:Int)) (by omega) (by omega),u32_in (n:=(p.1:Int)+(c.toNat:Int)) (by omega) (by omega)]
    have e1:Int.tmod ((p.1:Int)+(c.toNat:Int)) 65521=(((p.1+c.toNat) %65521:Nat):Int):=tmod_nat (p.1+c.toNat) 65521
    rw [e1,u32_in (by omega) (by omega)]
    have e2:Int.tmod ((p.2:Int)+(((p.1+c.toNat) %65521:Nat):Int)) 65521=(((p.2+(p.1+c.toNat) %65521) %65521:Nat):Int):=tmod_nat (p.2+(p.1+c.toNat) %65521) 65521
    rw [e2]
    rfl)
  (fun k c p p' _ hp he=>by injection he with he;subst he;exact ⟨Nat.mod_lt _ (by omega),Nat.mod_lt _ (by omega)⟩)
  (fun p _=>by
    simp only
    unfold sum_Of_l2
    rw [if_neg (by simp)]) (1,0) ⟨by omega,by omega⟩
 simp only [Int.natCast_zero,Int.ofNat_eq_natCast] at this
 exact this.trans (by rw [sum_each])
theorem or_sum {a b:Nat} (ha:a<65536) (hb:b<65536):(BitVec.ofInt 32 ((b:Int)*65536) ||| BitVec.ofInt 32 (a:Int)).toNat=65536*b+a:=by
 have e1:(BitVec.ofInt 32 ((b:Int)*65536)).toNat=b*65536:=by rw [BitVec.toNat_ofInt];omega
 have e2:(BitVec.ofInt 32 (a:Int)).toNat=a:=by rw [BitVec.toNat_ofInt];omega
 rw [BitVec.toNat_or,e1,e2]
 have:=Nat.shiftLeft_add_eq_or_of_lt (i:=16) (b:=a) (by omega) b
 rw [Nat.shiftLeft_eq] at this
 rw [←this]
 omega
theorem of_eq {s:Str} (hl:s.length≤1099511627776):sum_Of s=some (sumN s:Int):=by
 have hb:=sumAB_lt s 1 0 (by omega) (by omega)
 unfold sum_Of
 rw [sum_loop hl]
 simp only [Option.bind_some]
 have e1:(min (16:Int).toNat IntKind.u32.bits)=16:=rfl
 have e2:((sumAB 1 0 s).2:Int)*2^16=((sumAB 1 0 s).2:Int)*65536:=by congr 1
 have e3:IntKind.u32.bits=32:=rfl
 rw [e1,e2,u32_in (n:=((sumAB 1 0 s).2:Int)*65536) (by omega) (by omega),e3,or_sum (by omega) (by omega),u32_in (by omega) (by omega)]
 rfl
def ck (s:Str):Str:=bM s++numS (sumN s)
def aN (f:Str) (most:Int):Str×Str×Int:=
 if (ai f most).2.2≠0 then ([],[],(ai f most).2.2) else
 if (ae (ai f most).2.1).2.2≠0 then ([],[],(ae (ai f most).2.1).2.2) else
 if (ae (ai f most).2.1).1≠(sumN (ai f most).1:Int) then ([],[],10) else
 ((ai f most).1,(ae (ai f most).2.1).2.1,0)
theorem textM_len {s:Str} (h:s.length≤1099511627776):(bM s).length≤s.length+22:=by
 have:=numS_len (n:=s.length) (by omega)
 unfold bM;rw [List.length_append];omega
theorem sealM_len {s:Str} (h:s.length≤1099511627776):(ck s).length≤s.length+44:=by
 have:=textM_len h
 have:=numS_len (n:=sumN s) (by have:=sumN_lt s;omega)
 unfold ck;rw [List.length_append];omega
theorem seal_eq {s:Str} (hl:s.length≤1099511627776):sum_Seal s=some (ck s):=by
 have h0:=sumN_lt s
 have h1:=textM_len hl
 have h2:=numS_len (n:=sumN s) (by omega)
 unfold sum_Seal
 rw [text_eq hl]
 simp only [Option.bind_some]
 rw [of_eq hl]
 simp only [Option.bind_some]
 rw [u64_in (by omega) (by omega),num_eq (by omega)]
 simp only [Option.bind_some]
 rw [ah (by omega)]
 rfl
theorem open_eq {f:Str} (hl:f.length≤1099511627776) {most:Int} (hm: -9223372036854775808≤most∧most≤9223372036854775807):sum_Open f most=some (aN f most):=by
 have h1:=cu f most
 have h3:=takeNumM_nat (ai f most).2.1
 have h4:=sumN_lt (ai f most).1
 unfold sum_Open aN
 rw [takeText_eq hl hm]
 simp only [Option.bind_some]
 by_cases he:(ai f most).2.2=0
 ·rw [if_neg (show ¬(ai f most).2.2≠0 by simpa using he),if_neg (show ¬(!decide ((ai f most).2.2=0))=true by simp [he]),takeNum_eq (by omega)]
  simp only [Option.bind_some]
  by_cases he2:(ae (ai f most).2.1).2.2=0
  ·rw [if_neg (show ¬(ae (ai f most).2.1).2.2≠0 by simpa using he2),if_neg (show ¬(!decide ((ae (ai f most).2.1).2.2=0))=true by simp [he2]),of_eq (by omega)]
   simp only [Option.bind_some]
   rw [u64_in (by omega) (by omega)]
   by_cases he3:(ae (ai f most).2.1).1=(sumN (ai f most).1:Int)
   ·rw [if_neg (show ¬(ae (ai f most).2.1).1≠(sumN (ai f most).1:Int) by simpa using he3),if_neg (show ¬(!decide ((ae (ai f most).2.1).1=(sumN (ai f most).1:Int)))=true by simp [he3])]
   ·rw [if_pos (show (ae (ai f most).2.1).1≠(sumN (ai f most).1:Int) from he3),if_pos (show (!decide ((ae (ai f most).2.1).1=(sumN (ai f most).1:Int)))=true by simp [he3])]
  ·rw [if_pos (show (ae (ai f most).2.1).2.2≠0 from he2),if_pos (show (!decide ((ae (ai f most).2.1).2.2=0))=true by simp [he2])]
 ·rw [if_pos (show (ai f most).2.2≠0 from he),if_pos (show (!decide ((ai f most).2.2=0))=true by simp [he])]
theorem openM_len (f:Str) (most:Int):(aN f most).1.length+(aN f most).2.1.length≤f.length:=by
 have h1:=cu f most
 have h2:=cT (ai f most).2.1
 unfold aN
 split
 ·simp
 ·split
  ·simp
  ·split
   ·simp
   ·simp;omega
end Go.Ab
namespace Go.Ab
set_option linter.unusedVariables false
set_option linter.unusedSimpArgs false
def figS (n:Nat):Str:=fg (n / 10)++[UInt8.ofNat (48+n%10)]
theorem numS_fig (n:Nat):numS n=figS n++[59]:=by unfold numS figS;simp
theorem fig_nat (d:Nat) (h:d<10):(UInt8.ofNat (48+d)).toNat=48+d:=by
 rw [UInt8.toNat_ofNat'];omega
theorem fig_is (d:Nat) (h:d<10):isFig (UInt8.ofNat (48+d))=true:=by
 rw [isFig_iff,fig_nat d h];omega
theorem fg_figs (n:Nat): ∀c∈fg n,isFig c=true:=by
 induction n using Nat.strongRecOn with
 |_ n ih=>
  intro c hc
  rcases Nat.eq_zero_or_pos n with h0|h0
  ·subst h0;rw [fg_zero] at hc;cases hc
  ·rw [fg_pos h0] at hc
   rcases List.mem_append.1 hc with h|h
   ·exact ih (n / 10) (by omega) c h
   ·rw [List.mem_singleton] at h;subst h;exact fig_is _ (by omega)
theorem valF_append (l:Str): ∀(v:Nat) (c:UInt8),valF v (l++[c])=10*valF v l+(c.toNat - 48):=by
 induction l with
 |nil=>intro v c;rfl
 |cons x r ih=>intro v c;simp only [List.cons_append];unfold valF;exact ih _ c
theorem valF_fg (n:Nat):valF 0 (fg n)=n:=by
 induction n using Nat.strongRecOn with
 |_ n ih=>
  rcases Nat.eq_zero_or_pos n with h0|h0
  ·subst h0;rw [fg_zero];rfl
  ·rw [fg_pos h0,valF_append,ih (n / 10) (by omega),fig_nat _ (by omega)];omega
theorem fg_head (n:Nat):(fg n)[0]? ≠some 48:=by
 induction n using Nat.strongRecOn with
 |_ n ih=>
  rcases Nat.eq_zero_or_pos n with h0|h0
  ·subst h0;rw [fg_zero];simp
  ·rw [fg_pos h0]
   rcases Nat.eq_zero_or_pos (n / 10) with h1|h1
   ·rw [h1,fg_zero]
    simp only [List.nil_append,List.getElem?_cons_zero]
    intro h
    injection h with h
    have:=congrArg UInt8.toNat h
    rw [fig_nat _ (by omega)] at this
    have e:(48:UInt8).toNat=48:=rfl
    omega
   ·have hne:fg (n / 10)≠[]:=by rw [fg_pos h1];simp
    rw [List.getElem?_append_left (List.length_pos_iff.2 hne)]
    exact ih (n / 10) (by omega)
theorem figS_figs (n:Nat): ∀c∈figS n,isFig c=true:=by
 intro c hc
 rcases List.mem_append.1 hc with h|h
 ·exact fg_figs _ c h
 ·rw [List.mem_singleton] at h;subst h;exact fig_is _ (by omega)
theorem valF_figS (n:Nat):valF 0 (figS n)=n:=by
 unfold figS;rw [valF_append,valF_fg,fig_nat _ (by omega)];omega
theorem figS_len {n:Nat} (h:n<M64):(figS n).length≤20:=by
 have:=m64
 have:=fg_len 19 (n / 10) (by omega)
 unfold figS;rw [List.length_append];simp;omega
theorem figS_head (n:Nat) (h:1<(figS n).length):(figS n)[0]? ≠some 48:=by
 unfold figS at h⊢
 rw [List.length_append] at h
 simp at h
 rw [List.getElem?_append_left h]
 exact fg_head _
theorem figS_ne (n:Nat):figS n≠[]:=by unfold figS;simp
theorem takeWhile_all {p:Str} {r:Str} (h: ∀c∈p,isFig c=true) (hr: ∀c,r.head?=some c→isFig c=false):figs (p++r)=p:=by
 induction p with
 |nil=>
  cases r with
  |nil=>rfl
  |cons c r=>rw [List.nil_append,figs_cons,hr c rfl];rfl
 |cons c p ih=>
  rw [List.cons_append,figs_cons,h c (List.mem_cons_self ..),ih (fun x hx=>h x (List.mem_cons_of_mem _ hx))];rfl
theorem takeNum_num {n:Nat} (h:n<M64) (r:Str):ae (numS n++r)=((n:Int),r,0):=by
 have hf:figs (numS n++r)=figS n:=by
  rw [numS_fig,List.append_assoc]
  exact takeWhile_all (figS_figs n) (fun c hc=>by simp at hc;subst hc;rfl)
 have hlen:=figS_len h
 have hv:=valF_figS n
 have h0:(numS n++r)[0]? =(figS n)[0]? :=by
  rw [numS_fig,List.append_assoc,List.getElem?_append_left (List.length_pos_iff.2 (figS_ne n))]
 have hd:(numS n++r)[(figS n).length]? =some 59:=by
  rw [numS_fig,List.append_assoc,List.getElem?_append_right (Nat.le_refl _)];simp
 have:=good_form (s:=numS n++r) (by
  rw [hf,hv,h0]
  rintro (x|⟨x,y⟩|x)
  ·omega
  ·exact figS_head n x y
  ·omega) (by rw [hf];exact hd) (by rw [hf];exact figS_ne n)
 rw [this,hf,hv]
 congr 2
 rw [numS_fig]
 rw [List.drop_append_of_le_length (by simp),List.drop_of_length_le (by simp)]
 rfl
theorem snoc_cases (l:Str):l=[]∨ ∃r c,l=r++[c]:=by
 rcases List.eq_nil_or_concat l with h|⟨r,c,h⟩
 ·exact .inl h
 ·exact .inr ⟨r,c,by simpa using h⟩
theorem fg_val (k:Nat): ∀(l:Str),l.length≤k→l[0]? ≠some 48→(∀c∈l,isFig c=true)→fg (valF 0 l)=l:=by
 induction k with
 |zero=>intro l hk _ _;have:l=[]:=List.length_eq_zero_iff.1 (by omega);subst this;exact fg_zero
 |succ k ih=>
  intro l hk h0 hf
  rcases snoc_cases l with rfl|⟨r,c,rfl⟩
  ·exact fg_zero
  ·have hc:=(isFig_iff c).1 (hf c (by simp))
   rw [valF_append]
   have hr:fg (valF 0 r)=r:=by
    refine ih r (by simp at hk;omega) (fun h=>h0 ?_) (fun x hx=>hf x (List.mem_append_left _ hx))
    rw [List.getElem?_append_left (by rcases r with _|_<;>simp at h⊢)];exact h
   have hpos:0<10*valF 0 r+(c.toNat - 48):=by
    rcases Nat.eq_zero_or_pos (valF 0 r) with hz|hz
    ·rw [hz,fg_zero] at hr
     subst hr
     have:c≠48:=fun e=>h0 (by simp [e])
     have h2:c.toNat≠48:=fun e=>this ((toNat48 c).1 (by omega))
     omega
    ·omega
   rw [fg_pos hpos]
   have e1:(10*valF 0 r+(c.toNat - 48)) / 10=valF 0 r:=by omega
   have e2:48+(10*valF 0 r+(c.toNat - 48)) %10=c.toNat:=by omega
   rw [e1,e2,hr]
   congr 2
   exact UInt8.ofNat_toNat
theorem figS_val {l:Str} (hne:l≠[]) (h0:1<l.length→l[0]? ≠some 48) (hf: ∀c∈l,isFig c=true):figS (valF 0 l)=l:=by
 rcases snoc_cases l with rfl|⟨r,c,rfl⟩
 ·exact absurd rfl hne
 ·have hc:=(isFig_iff c).1 (hf c (by simp))
  rw [valF_append]
  unfold figS
  have hr:fg (valF 0 r)=r:=by
   refine fg_val r.length r (Nat.le_refl _) (fun h=> ?_) (fun x hx=>hf x (List.mem_append_left _ hx))
   have hpos:0<r.length:=by rcases r with _|_<;>simp at h⊢
   exact h0 (by simp;omega) (by rw [List.getElem?_append_left hpos];exact h)
  have e1:(10*valF 0 r+(c.toNat - 48)) / 10=valF 0 r:=by omega
  have e2:48+(10*valF 0 r+(c.toNat - 48)) %10=c.toNat:=by omega
  rw [e1,e2,hr]
  congr 2
  exact UInt8.ofNat_toNat
theorem takeNum_inv {s:Str} (h:(ae s).2.2=0): ∃n:Nat,n<M64∧(ae s).1=n∧s=numS n++(ae s).2.1:=by
 unfold ae at h⊢
 split at h
 ·simp at h
 ·rename_i hno
  rw [if_neg hno]
  split at h
  ·simp at h
  ·rename_i c r hd
   split at h
   ·simp at h
   ·rename_i hc
    simp only [if_neg hc]
    have h59:c=59:=by
     by_cases e:c=59
     ·exact e
     ·exact absurd (.inl e) hc
    have hne:figs s≠[]:=fun e=>hc (.inr e)
    refine ⟨valF 0 (figs s),?_,rfl,?_⟩
    ·rcases Nat.lt_or_ge (valF 0 (figs s)) M64 with x|x
     ·exact x
     ·exact absurd (.inr (.inr x)) hno
    ·rw [numS_fig,figS_val hne (fun hl h0=>hno (.inr (.inl ⟨hl,by
      rw [←figs_take s,List.getElem?_take_of_lt (by omega)] at h0;exact h0⟩))) figs_all]
     have:=List.take_append_drop (figs s).length s
     rw [figs_take,hd,h59] at this
     rw [List.append_assoc]
     exact this.symm
theorem takeText_text {t:Str} {most:Int} (ht:t.length<M64) (hm:(t.length:Int)≤most) (r:Str):ai (bM t++r) most=(t,r,0):=by
 have e:ae (bM t++r)=((t.length:Int),t++r,0):=by
  unfold bM;rw [List.append_assoc];exact takeNum_num ht _
 unfold ai
 rw [e]
 simp only
 rw [if_neg (by simp),if_neg (by omega),if_neg (by rw [List.length_append];omega)]
 simp
theorem takeText_inv {s:Str} {most:Int} (h:(ai s most).2.2=0):s=bM (ai s most).1++(ai s most).2.1∧((ai s most).1.length:Int)≤most∧(ai s most).1.length<M64:=by
 unfold ai at h⊢
 split at h
 ·rename_i h1;exact absurd h h1
 ·rename_i h1
  rw [if_neg h1]
  split at h
  ·simp at h
  ·rename_i h2
   rw [if_neg h2]
   split at h
   ·simp at h
   ·rename_i h3
    rw [if_neg h3]
    obtain ⟨n,hn,e1,e2⟩:=takeNum_inv (s:=s) (by simpa using h1)
    simp only
    have hl:((ae s).2.1.take (ae s).1.toNat).length=n:=by rw [List.length_take];omega
    refine ⟨?_,by rw [hl];omega,by rw [hl];exact hn⟩
    unfold bM
    rw [hl,List.append_assoc,List.take_append_drop]
    exact e2
theorem sum_m64 (t:Str):sumN t<M64:=by have:=sumN_lt t;have:=m64;omega
theorem open_seal {t:Str} {most:Int} (ht:t.length<M64) (hm:(t.length:Int)≤most) (r:Str):aN (ck t++r) most=(t,r,0):=by
 have e:ai (ck t++r) most=(t,numS (sumN t)++r,0):=by
  unfold ck;rw [List.append_assoc];exact takeText_text ht hm _
 unfold aN
 rw [e]
 simp only
 rw [takeNum_num (sum_m64 t)]
 simp
theorem open_inv {s:Str} {most:Int} (h:(aN s most).2.2=0):s=ck (aN s most).1++(aN s most).2.1∧((aN s most).1.length:Int)≤most∧(aN s most).1.length<M64:=by
 unfold aN at h⊢
 split at h
 ·rename_i h1;exact absurd h h1
 ·rename_i h1
  rw [if_neg h1]
  split at h
  ·rename_i h2;exact absurd h h2
  ·rename_i h2
   rw [if_neg h2]
   split at h
   ·simp at h
   ·rename_i h3
    rw [if_neg h3]
    obtain ⟨e1,e2,e4⟩:=takeText_inv (s:=s) (most:=most) (by simpa using h1)
    obtain ⟨n,hn,e5,e6⟩:=takeNum_inv (s:=(ai s most).2.1) (by simpa using h2)
    have e3:(ae (ai s most).2.1).1=(sumN (ai s most).1:Int):=by simpa using h3
    have hs:n=sumN (ai s most).1:=by omega
    subst hs
    simp only
    refine ⟨?_,e2,e4⟩
    unfold ck
    rw [List.append_assoc,←e6]
    exact e1
theorem seal_ne (t:Str):ck t≠[]:=by unfold ck bM numS;simp
theorem seal_pos (t:Str):0<(ck t).length:=List.length_pos_iff.2 (seal_ne t)
end Go.Ab
namespace Go.Ab
set_option linter.unusedVariables false
set_option linter.unusedSimpArgs false
def rightM:List Pair→Bool
 |[]=>true
 |[_]=>true
 |a::b::r=>ltS a.Key b.Key&&rightM (b::r)
def hasK (l:List Pair) (k:Str):Bool:=l.any (fun p=>decide (p.Key=k))
def findM (l:List Pair) (k:Str):Str×Bool:=match l.find? (fun p=>decide (p.Key=k)) with|some p=>(p.Val,true)|none=>([],false)
def replP (k v:Str):List Pair→List Pair
 |[]=>[]
 |p::r=>if p.Key=k then ⟨k,v⟩::r else p::replP k v r
def insP (k v:Str):List Pair→List Pair
 |[]=>[⟨k,v⟩]
 |p::r=>if ltS k p.Key=true then ⟨k,v⟩::p::r else p::insP k v r
def putP (l:List Pair) (k v:Str):List Pair:=if hasK l k=true then replP k v l else insP k v l
def dropP (l:List Pair) (k:Str):List Pair:=l.filter (fun p=> !decide (p.Key=k))
def doW (l:List Pair) (w:Write):List Pair:=if w.Del=true then dropP l w.Key else putP l w.Key w.Val
def applyM (l:List Pair) (w:List Write):List Pair:=w.foldl doW l
theorem findM_has (l:List Pair) (k:Str):(findM l k).2=hasK l k:=by
 unfold findM hasK
 cases h:l.find? (fun p=>decide (p.Key=k)) with
 |none=>
  have:=List.find?_eq_none.1 h
  simp only
  rw [eq_comm,List.any_eq_false]
  exact this
 |some p=>
  simp only
  rw [eq_comm,List.any_eq_true]
  exact ⟨p,List.mem_of_find?_eq_some h,(List.find?_some (p:=fun p:Pair=>decide (p.Key=k)) h)⟩
theorem insP_len (k v:Str) (l:List Pair):(insP k v l).length=l.length+1:=by
 induction l with
 |nil=>rfl
 |cons p r ih=>unfold insP;split<;>simp [ih]
theorem replP_len (k v:Str) (l:List Pair):(replP k v l).length=l.length:=by
 induction l with
 |nil=>rfl
 |cons p r ih=>unfold replP;split<;>simp [ih]
theorem putP_len (l:List Pair) (k v:Str):(putP l k v).length≤l.length+1:=by
 unfold putP;split
 ·rw [replP_len];omega
 ·rw [insP_len];omega
theorem insP_mem (k v:Str) (l:List Pair) (x:Pair):x∈insP k v l↔x=⟨k,v⟩∨x∈l:=by
 induction l with
 |nil=>simp [insP]
 |cons p r ih=>
  unfold insP;split
  ·simp
  ·simp only [List.mem_cons,ih]
   constructor
   ·rintro (h|h|h)<;>simp [h]
   ·rintro (h|h|h)<;>simp [h]
theorem replP_mem {k v:Str} {l:List Pair} {x:Pair} (h:x∈replP k v l):x=⟨k,v⟩∨x∈l:=by
 induction l with
 |nil=>simp [replP] at h
 |cons p r ih=>
  unfold replP at h
  split at h
  ·rcases List.mem_cons.1 h with h|h
   ·exact .inl h
   ·exact .inr (List.mem_cons_of_mem _ h)
  ·rcases List.mem_cons.1 h with h|h
   ·exact .inr (by rw [h];exact List.mem_cons_self ..)
   ·exact (ih h).imp id (List.mem_cons_of_mem _)
theorem putP_mem {l:List Pair} {k v:Str} {x:Pair} (h:x∈putP l k v):x=⟨k,v⟩∨x∈l:=by
 unfold putP at h
 split at h
 ·exact replP_mem h
 ·exact (insP_mem _ _ _ _).1 h
theorem putP_has (l:List Pair) (k v:Str) (n:Str):hasK (putP l k v) n=(decide (k=n)||hasK l n):=by
 unfold putP
 split
 ·rename_i h
  have gen: ∀l:List Pair,hasK l k=true→hasK (replP k v l) n=(decide (k=n)||hasK l n):=by
   intro l
   induction l with
   |nil=>intro h;simp [hasK] at h
   |cons p r ih=>
    intro h
    unfold replP
    by_cases hp:p.Key=k
    ·rw [if_pos hp]
     unfold hasK
     rw [List.any_cons,List.any_cons]
     simp only [hp]
     by_cases hk:k=n<;>simp [hk]
    ·rw [if_neg hp]
     have hr:hasK r k=true:=by unfold hasK at h⊢;rw [List.any_cons] at h;simpa [hp] using h
     have:=ih hr
     unfold hasK at this⊢
     rw [List.any_cons,List.any_cons,this]
     by_cases h1:p.Key=n<;>by_cases h2:k=n<;>simp [h1,h2]
  exact gen l h
 ·have gen: ∀l:List Pair,hasK (insP k v l) n=(decide (k=n)||hasK l n):=by
   intro l
   rw [Bool.eq_iff_iff]
   unfold hasK
   rw [Bool.or_eq_true,List.any_eq_true,List.any_eq_true]
   constructor
   ·rintro ⟨x,hx,hq⟩
    rcases (insP_mem _ _ _ _).1 hx with rfl|hx
    ·exact .inl hq
    ·exact .inr ⟨x,hx,hq⟩
   ·rintro (h|⟨x,hx,hq⟩)
    ·exact ⟨⟨k,v⟩,(insP_mem _ _ _ _).2 (.inl rfl),h⟩
    ·exact ⟨x,(insP_mem _ _ _ _).2 (.inr hx),hq⟩
  exact gen l
theorem dropP_len (l:List Pair) (k:Str):(dropP l k).length≤l.length:=List.length_filter_le _ _
theorem doW_len (l:List Pair) (w:Write):(doW l w).length≤l.length+1:=by
 unfold doW;split
 ·have:=dropP_len l w.Key;omega
 ·exact putP_len ..
theorem applyM_len (w:List Write): ∀l:List Pair,(applyM l w).length≤l.length+w.length:=by
 induction w with
 |nil=>intro l;exact Nat.le_refl _
 |cons x r ih=>
  intro l
  have h1:=doW_len l x
  have h2:=ih (doW l x)
  have e:applyM l (x::r)=applyM (doW l x) r:=rfl
  rw [e]
  simp only [List.length_cons];omega
end Go.Ab
namespace Go.Ab
set_option linter.unusedVariables false
set_option linter.unusedSimpArgs false
def riseW:List Write→Bool
 |[]=>true
 |[_]=>true
 |a::b::r=>ltS a.Key b.Key&&riseW (b::r)
def goodW (w:Write):Bool:=decide (1≤w.Key.length)&&decide (w.Key.length≤32)&&decide (w.Val.length≤64)&& !(w.Del&&decide (w.Val≠[]))
def mayB (b:Batch):Bool:=(decide (b.Kind=1)||decide (b.Kind=2))&&(decide (1≤b.Token.length)&&decide (b.Token.length≤16))&&decide (b.Writes.length≤24)&& !(decide (b.Kind=2)&&decide (b.Writes≠[]))&&(riseW b.Writes&&b.Writes.all goodW)
def delN (w:Write):Str:=if w.Del=true then [49,59] else [48,59]
def wBytes (w:Write):Str:=delN w++(bM w.Key++bM w.Val)
def wsBytes:List Write→Str
 |[]=>[]
 |w::r=>wBytes w++wsBytes r
def headB (b:Batch):Str:=numS b.Kind.toNat++bM b.Token++numS b.Writes.length
def df (b:Batch):Str×Int:=if mayB b=true then (headB b++wsBytes b.Writes,0) else ([],1)
def noBatch:Batch:=⟨0,[],[]⟩
def takeW (s:Str):Option (Write×Str):=
 if (ae s).2.2≠0∨(ae s).1>1 then none else
 if (ai (ae s).2.1 32).2.2≠0 then none else
 if (ai (ai (ae s).2.1 32).2.1 64).2.2≠0 then none else
 some (⟨(ai (ae s).2.1 32).1,(ai (ai (ae s).2.1 32).2.1 64).1,decide ((ae s).1=1)⟩,(ai (ai (ae s).2.1 32).2.1 64).2.1)
def takeWs:Nat→Str→Option (List Write×Str)
 |0,s=>some ([],s)
 |n+1,s=>match takeW s with
  |none=>none
  |some (w,r)=>match takeWs n r with
   |none=>none
   |some (l,q)=>some (w::l,q)
def takeBt (s:Str):Batch×Int:=
 if (ae s).2.2≠0∨(ae s).1>2 then (noBatch,3) else
 if (ai (ae s).2.1 16).2.2≠0 then (noBatch,3) else
 if (ae (ai (ae s).2.1 16).2.1).2.2≠0∨(ae (ai (ae s).2.1 16).2.1).1>24 then (noBatch,3) else
 match takeWs (ae (ai (ae s).2.1 16).2.1).1.toNat (ae (ai (ae s).2.1 16).2.1).2.1 with
 |none=>(noBatch,3)
 |some (l,q)=>if q≠[]∨mayB ⟨(ae s).1,(ai (ae s).2.1 16).1,l⟩=false then (noBatch,3) else (⟨(ae s).1,(ai (ae s).2.1 16).1,l⟩,0)
theorem nums0:numS 0=[48,59]:=by unfold numS;rw [show (0 / 10:Nat)=0 from rfl,fg_zero];rfl
theorem nums1:numS 1=[49,59]:=by unfold numS;rw [show (1 / 10:Nat)=0 from rfl,fg_zero];rfl
theorem delN_num (w:Write):delN w=numS (if w.Del=true then 1 else 0):=by
 unfold delN;split
 ·rw [nums1]
 ·rw [nums0]
theorem takeW_bytes {w:Write} (h:goodW w=true) (r:Str):takeW (wBytes w++r)=some (w,r):=by
 unfold goodW at h
 simp only [Bool.and_eq_true,decide_eq_true_eq,Bool.not_eq_true'] at h
 obtain ⟨⟨⟨h1,h2⟩,h3⟩,h4⟩:=h
 have m:=m64
 have e:wBytes w++r=numS (if w.Del=true then 1 else 0)++(bM w.Key++(bM w.Val++r)):=by unfold wBytes;rw [delN_num];simp
 have t1:=takeNum_num (n:=if w.Del=true then 1 else 0) (by split<;>omega) (bM w.Key++(bM w.Val++r))
 have t2:=takeText_text (t:=w.Key) (most:=32) (by omega) (by omega) (bM w.Val++r)
 have t3:=takeText_text (t:=w.Val) (most:=64) (by omega) (by omega) r
 unfold takeW
 rw [e,t1]
 simp only [t2,t3]
 rw [if_neg (by split<;>simp),if_neg (by simp),if_neg (by simp)]
 cases w with
 |mk k v d=>cases d<;>rfl
theorem takeWs_bytes (l:List Write) (r:Str) (h:l.all goodW=true):takeWs l.length (wsBytes l++r)=some (l,r):=by
 induction l with
 |nil=>rfl
 |cons w l ih=>
  rw [List.all_cons,Bool.and_eq_true] at h
  have e:wsBytes (w::l)++r=wBytes w++(wsBytes l++r):=by
   have:wsBytes (w::l)=wBytes w++wsBytes l:=rfl
   rw [this,List.append_assoc]
  rw [e,List.length_cons]
  unfold takeWs
  rw [takeW_bytes h.1]
  simp only
  rw [ih h.2]
theorem takeB_bytes {b:Batch} (h:mayB b=true):takeBt (df b).1=(b,0):=by
 have hm:=h
 unfold mayB at h
 simp only [Bool.and_eq_true,Bool.or_eq_true,decide_eq_true_eq,Bool.not_eq_true'] at h
 obtain ⟨⟨⟨⟨h1,h2,h3⟩,h4⟩,h5⟩,h6,h7⟩:=h
 have m:=m64
 have hk:((b.Kind.toNat:Nat):Int)=b.Kind:=by omega
 have e:(df b).1=numS b.Kind.toNat++(bM b.Token++(numS b.Writes.length++wsBytes b.Writes)):=by unfold df headB;rw [if_pos hm];simp
 have t1:=takeNum_num (n:=b.Kind.toNat) (by omega) (bM b.Token++(numS b.Writes.length++wsBytes b.Writes))
 have t2:=takeText_text (t:=b.Token) (most:=16) (by omega) (by omega) (numS b.Writes.length++wsBytes b.Writes)
 have t3:=takeNum_num (n:=b.Writes.length) (by omega) (wsBytes b.Writes)
 have t4:=takeWs_bytes b.Writes [] h7
 rw [List.append_nil] at t4
 unfold takeBt
 rw [e,t1]
 simp only [t2,t3,hk,Int.toNat_natCast]
 rw [t4,if_neg (by omega),if_neg (by simp),if_neg (by omega)]
 simp only
 have e2:(⟨b.Kind,b.Token,b.Writes⟩:Batch)=b:=rfl
 rw [e2,if_neg (by rw [hm];simp)]
theorem textM_le {t:Str} {k:Nat} (h:t.length≤k) (hk:k≤1099511627776):(bM t).length≤k+22:=by
 have:=textM_len (s:=t) (by omega);omega
def gaveUp (b:Batch):Str:=if b.Kind=2 then [103] else [99]
def doB (s:State) (b:Batch):State×Int:=
 if mayB b=false then (s,1) else if hasK s.Toks b.Token=true then (s,8) else (⟨applyM s.Data b.Writes,putP s.Toks b.Token (gaveUp b)⟩,0)
def dE (s:State):List Pair:=s.Data.map (fun p=>(⟨100::p.Key,p.Val⟩:Pair))++s.Toks.map (fun p=>(⟨116::p.Key,p.Val⟩:Pair))
def backS (s:State) (p:Pair):Option State:=
 match p.Key with
 |[]=>none
 |c::k=>if c=100∧s.Toks=[] then some ⟨s.Data++[⟨k,p.Val⟩],s.Toks⟩ else if c=116∧(p.Val=[99]∨p.Val=[103]) then some ⟨s.Data,s.Toks++[⟨k,p.Val⟩]⟩ else none
def backF:List Pair→State→Option State
 |[],s=>some s
 |p::r,s=>match backS s p with|none=>none|some t=>backF r t
def noState:State:=⟨[],[]⟩
def backM (l:List Pair):State×Int:=match backF l noState with|none=>(noState,3)|some s=>(s,0)
def TokOk (s:State):Prop:= ∀p∈s.Toks,p.Val=[99]∨p.Val=[103]
theorem backS_t (s:State) (k v:Str) (hv:v=[99]∨v=[103]):backS s ⟨116::k,v⟩=some ⟨s.Data,s.Toks++[⟨k,v⟩]⟩:=by simp [backS,hv]
theorem backS_d (s:State) (k v:Str) (h:s.Toks=[]):backS s ⟨100::k,v⟩=some ⟨s.Data++[⟨k,v⟩],s.Toks⟩:=by simp [backS,h]
theorem back_toks (l:List Pair) (h: ∀p∈l,p.Val=[99]∨p.Val=[103]): ∀s:State,backF (l.map (fun p=>(⟨116::p.Key,p.Val⟩:Pair))) s=some ⟨s.Data,s.Toks++l⟩:=by
 induction l with
 |nil=>intro s;cases s;simp [backF]
 |cons p r ih=>
  intro s
  have hp:=h p (List.mem_cons_self ..)
  rw [List.map_cons]
  unfold backF
  rw [backS_t _ _ _ hp]
  simp only
  rw [ih (fun x hx=>h x (List.mem_cons_of_mem _ hx))]
  simp
theorem back_data (l t:List Pair): ∀s:State,s.Toks=[]→backF (l.map (fun p=>(⟨100::p.Key,p.Val⟩:Pair))++t) s=backF t ⟨s.Data++l,[]⟩:=by
 induction l with
 |nil=>intro s h;cases s;simp only at h;subst h;simp
 |cons p r ih=>
  intro s h
  rw [List.map_cons,List.cons_append]
  conv=>lhs;unfold backF
  rw [backS_d _ _ _ h]
  simp only
  refine (ih (State.mk (s.Data++[Pair.mk p.Key p.Val]) s.Toks) h).trans ?_
  simp
theorem back_pairs {s:State} (h:TokOk s):backM (dE s)=(s,0):=by
 unfold backM dE
 rw [back_data _ _ _ rfl,back_toks _ h]
 simp [noState]
theorem doB_toks {s:State} {b:Batch} (h:TokOk s):TokOk (doB s b).1:=by
 unfold doB
 split
 ·exact h
 split
 ·exact h
 ·intro p hp
  rcases putP_mem hp with rfl|hp
  ·unfold gaveUp;split
   ·exact .inr rfl
   ·exact .inl rfl
  ·exact h p hp
def shortP (p:Pair):Bool:=decide (p.Key.length≤65536)&&decide (p.Val.length≤65536)
def mayR (l:List Pair):Bool:=rightM l&&l.all shortP
def pBytes:List Pair→Str
 |[]=>[]
 |p::r=>bM p.Key++(bM p.Val++pBytes r)
def bytesR (l:List Pair):Str×Int:=if mayR l=true then (ck (numS l.length++pBytes l),0) else ([],1)
def takeP (s:Str):Option (Pair×Str):=
 if (ai s 65536).2.2≠0 then none else
 if (ai (ai s 65536).2.1 65536).2.2≠0 then none else
 some (⟨(ai s 65536).1,(ai (ai s 65536).2.1 65536).1⟩,(ai (ai s 65536).2.1 65536).2.1)
def takePs:Nat→Str→Option (List Pair×Str)
 |0,s=>some ([],s)
 |n+1,s=>match takeP s with
  |none=>none
  |some (w,r)=>match takePs n r with
   |none=>none
   |some (l,q)=>some (w::l,q)
def takeR (s:Str):List Pair×Int:=
 if (aN s 1073741824).2.2≠0∨(aN s 1073741824).2.1≠[] then ([],3) else
 if (ae (aN s 1073741824).1).2.2≠0 then ([],3) else
 match takePs (ae (aN s 1073741824).1).1.toNat (ae (aN s 1073741824).1).2.1 with
 |none=>([],3)
 |some (l,q)=>if q≠[]∨mayR l=false then ([],3) else (l,0)
theorem takeP_bytes {p:Pair} (h:shortP p=true) (r:Str):takeP (bM p.Key++(bM p.Val++r))=some (p,r):=by
 unfold shortP at h
 simp only [Bool.and_eq_true,decide_eq_true_eq] at h
 have m:=m64
 have t2:=takeText_text (t:=p.Key) (most:=65536) (by omega) (by omega) (bM p.Val++r)
 have t3:=takeText_text (t:=p.Val) (most:=65536) (by omega) (by omega) r
 unfold takeP
 rw [t2]
 simp only [t3]
 rw [if_neg (by simp),if_neg (by simp)]
theorem takePs_bytes (l:List Pair) (r:Str) (h:l.all shortP=true):takePs l.length (pBytes l++r)=some (l,r):=by
 induction l with
 |nil=>rfl
 |cons p l ih=>
  rw [List.all_cons,Bool.and_eq_true] at h
  have e:pBytes (p::l)++r=bM p.Key++(bM p.Val++(pBytes l++r)):=by
   have:pBytes (p::l)=bM p.Key++(bM p.Val++pBytes l):=rfl
   rw [this];simp
  rw [e,List.length_cons]
  unfold takePs
  rw [takeP_bytes h.1]
  simp only
  rw [ih h.2]
theorem pBytes_len (l:List Pair):l.length≤(pBytes l).length:=by
 induction l with
 |nil=>simp [pBytes]
 |cons p r ih=>
  have:pBytes (p::r)=bM p.Key++(bM p.Val++pBytes r):=rfl
  rw [this]
  have h1:0<(bM p.Key).length:=by unfold bM numS;simp;omega
  simp only [List.length_append,List.length_cons];omega
theorem takeR_bytes {l:List Pair} (h:mayR l=true) (hb:(numS l.length++pBytes l).length≤1073741824):takeR (bytesR l).1=(l,0):=by
 have m:=m64
 have hm:=h
 unfold mayR at h
 rw [Bool.and_eq_true] at h
 have hl:=pBytes_len l
 have hl2:(pBytes l).length≤(numS l.length++pBytes l).length:=by rw [List.length_append];omega
 have e:(bytesR l).1=ck (numS l.length++pBytes l)++[]:=by unfold bytesR;rw [if_pos hm];simp
 have t0:=open_seal (t:=numS l.length++pBytes l) (most:=1073741824) (by omega) (by omega) []
 have t1:=takeNum_num (n:=l.length) (by omega) (pBytes l)
 have t2:=takePs_bytes l [] h.2
 rw [List.append_nil] at t2
 unfold takeR
 rw [e,t0]
 simp only [t1,Int.toNat_natCast,t2]
 rw [if_neg (by simp),if_neg (by simp),if_neg (by rw [hm];simp)]
def br (n:Int):Str:=if 1≤n∧n≤1000000 then 114::figS n.toNat else []
def manifM (f r:Int):Str:=ck (numS (max f 0).toNat++numS (max r 0).toNat)
def takeMan (s:Str):Int×Int×Int:=
 if (aN s 65536).2.2≠0∨(aN s 65536).2.1≠[] then (0,0,3) else
 if (ae (aN s 65536).1).2.2≠0∨(ae (aN s 65536).1).1<1∨(ae (aN s 65536).1).1>1000000 then (0,0,3) else
 if (ae (ae (aN s 65536).1).2.1).2.2≠0∨(ae (ae (aN s 65536).1).2.1).1>1000000∨(ae (ae (aN s 65536).1).2.1).2.1≠[] then (0,0,3) else
 ((ae (aN s 65536).1).1,(ae (ae (aN s 65536).1).2.1).1,0)
theorem takeMan_manif {f r:Int} (hf:1≤f∧f≤1000000) (hr:0≤r∧r≤1000000):takeMan (manifM f r)=(f,r,0):=by
 have m:=m64
 have e1:(((max f 0).toNat:Nat):Int)=f:=by omega
 have e2:(((max r 0).toNat:Nat):Int)=r:=by omega
 have l1:=numS_len (n:=(max f 0).toNat) (by omega)
 have l2:=numS_len (n:=(max r 0).toNat) (by omega)
 have t0:=open_seal (t:=numS (max f 0).toNat++numS (max r 0).toNat) (most:=65536) (by rw [List.length_append];omega) (by rw [List.length_append];omega) []
 have t1:=takeNum_num (n:=(max f 0).toNat) (by omega) (numS (max r 0).toNat)
 have t2:=takeNum_num (n:=(max r 0).toNat) (by omega) []
 rw [List.append_nil] at t0 t2
 unfold takeMan manifM
 rw [t0]
 simp only [t1,t2,e1,e2]
 rw [if_neg (by simp),if_neg (by omega),if_neg (by simp;omega)]
end Go.Ab
namespace Go.Ab
set_option linter.unusedVariables false
set_option linter.unusedSimpArgs false
theorem ltS_not (k x:Str):(!(ltS x k||decide (x=k)))=ltS k x:=by
 rcases ltS_tri k x with h|h|h
 ·have h1:ltS x k=false:=by
   cases hh:ltS x k with
   |false=>rfl
   |true=>have:=ltS_trans k h hh;rw [ltS_irr] at this;cases this
  have h2: ¬x=k:=fun e=>by rw [e,ltS_irr] at h;cases h
  simp [h,h1,h2]
 ·subst h;simp [ltS_irr]
 ·have h1:ltS k x=false:=by
   cases hh:ltS k x with
   |false=>rfl
   |true=>have:=ltS_trans k hh h;rw [ltS_irr] at this;cases this
  simp [h,h1]
theorem first_split {α:Type} {l:List α} {k:Nat} {x:α} (h:l[k]? =some x):l=l.take k++x::l.drop (k+1):=by
 have hlt:=(List.getElem?_eq_some_iff.1 h).1
 have hx:=(List.getElem?_eq_some_iff.1 h).2
 rw [←hx,←List.drop_eq_getElem_cons hlt,List.take_append_drop]
theorem find_pre {pre:List Pair} {x:Pair} {r:List Pair} {key:Str} (hp: ∀y∈pre,¬y.Key=key) (hx:x.Key=key):findM (pre++x::r) key=(x.Val,true):=by
 unfold findM
 rw [List.find?_append,List.find?_eq_none.2 (by simpa using hp)]
 simp [hx]
theorem find_none {l:List Pair} {key:Str} (hp: ∀y∈l,¬y.Key=key):findM l key=([],false):=by
 unfold findM
 rw [List.find?_eq_none.2 (by simpa using hp)]
theorem repl_pre {pre:List Pair} {x:Pair} {r:List Pair} {key v:Str} (hp: ∀y∈pre,¬y.Key=key) (hx:x.Key=key):replP key v (pre++x::r)=pre++⟨key,v⟩::r:=by
 induction pre with
 |nil=>simp [replP,hx]
 |cons y s ih=>
  rw [List.cons_append]
  unfold replP
  rw [if_neg (hp y (List.mem_cons_self ..)),ih (fun z hz=>hp z (List.mem_cons_of_mem _ hz)),List.cons_append]
theorem ins_pre {pre:List Pair} {x:Pair} {r:List Pair} {key v:Str} (hp: ∀y∈pre,¬ltS key y.Key=true) (hx:ltS key x.Key=true):insP key v (pre++x::r)=pre++⟨key,v⟩::x::r:=by
 induction pre with
 |nil=>simp [insP,hx]
 |cons y s ih=>
  rw [List.cons_append]
  unfold insP
  rw [if_neg (hp y (List.mem_cons_self ..)),ih (fun z hz=>hp z (List.mem_cons_of_mem _ hz)),List.cons_append]
theorem ins_none {l:List Pair} {key v:Str} (hp: ∀y∈l,¬ltS key y.Key=true):insP key v l=l++[⟨key,v⟩]:=by
 induction l with
 |nil=>rfl
 |cons y s ih=>
  unfold insP
  rw [if_neg (hp y (List.mem_cons_self ..)),ih (fun z hz=>hp z (List.mem_cons_of_mem _ hz)),List.cons_append]
theorem has_none {l:List Pair} {key:Str} (hp: ∀y∈l,¬y.Key=key):hasK l key=false:=by
 unfold hasK;rw [List.any_eq_false];simpa using hp
theorem has_mem {l:List Pair} {key:Str} {x:Pair} (h:x∈l) (hx:x.Key=key):hasK l key=true:=by
 unfold hasK;rw [List.any_eq_true];exact ⟨x,h,by simpa using hx⟩
theorem at_ways {l:List Pair} (hl:l.length≤2000000000000) (key:Str):
 (∃k x,l[k]? =some x∧x.Key=key∧(∀y∈l.take k,¬y.Key=key)∧table_at l key=some (k:Int))∨((∀y∈l,¬y.Key=key)∧table_at l key=some (-1)):=by
 unfold table_at cR
 rcases find_first l (fun p=>decide (p.Key=key)) (fun k=>(.inl (k:Int):Int⊕Unit)) (.inr ()) (fun (s169:Int)=>bh l key s169) (fun k x hk=>by
  have hlt:=(List.getElem?_eq_some_iff.1 hk).1
  unfold bh table_at_1
  rw [if_pos (by simpa using hlt),aP hlt,(List.getElem?_eq_some_iff.1 hk).2,IntWalk.i64_in _ ⟨by omega,by omega⟩]
  by_cases h:x.Key=key<;>simp [h]) (by unfold bh;rw [if_neg (by simp)]) with ⟨k,x,hk,h1,h2,h3⟩|⟨h1,h3⟩
 ·exact .inl ⟨k,x,hk,by simpa using h2,fun y hy=>by simpa using h3 y hy,by rw [h1];rfl⟩
 ·exact .inr ⟨fun y hy=>by simpa using h3 y hy,by rw [h1];rfl⟩
theorem tfind_eq {l:List Pair} (hl:l.length≤2000000000000) (key:Str):table_Find l key=some (findM l key):=by
 unfold table_Find
 rcases at_ways hl key with ⟨k,x,hk,hx,hp,h⟩|⟨hp,h⟩
 ·have hlt:=(List.getElem?_eq_some_iff.1 hk).1
  rw [h]
  simp only [Option.bind_some]
  rw [if_neg (by simp),aP hlt,(List.getElem?_eq_some_iff.1 hk).2]
  simp only [Option.bind_some]
  have e:=find_pre (r:=l.drop (k+1)) hp hx
  rw [←first_split hk] at e
  rw [e]
 ·rw [h]
  simp only [Option.bind_some]
  rw [if_pos (by decide),find_none hp]
theorem tput_eq {l:List Pair} (hl:l.length≤2000000000000) (key v:Str):table_Put l key v=some (putP l key v):=by
 unfold table_Put
 rw [ah (by omega)]
 rcases at_ways hl key with ⟨k,x,hk,hx,hp,h⟩|⟨hp,h⟩
 ·have hlt:=(List.getElem?_eq_some_iff.1 hk).1
  rw [h]
  simp only [Option.bind_some]
  rw [if_pos (by simp),aP hlt]
  simp only [Option.bind_some,Int.toNat_natCast]
  have e:=repl_pre (r:=l.drop (k+1)) (v:=v) hp hx
  rw [←first_split hk] at e
  have hh:hasK l key=true:=has_mem (List.mem_of_getElem? hk) hx
  unfold putP
  rw [if_pos hh,e,List.set_eq_take_append_cons_drop,if_pos hlt]
 ·rw [h]
  simp only [Option.bind_some]
  rw [if_neg (by decide)]
  have hh:hasK l key=false:=has_none hp
  unfold putP
  rw [if_neg (by rw [hh];simp)]
  unfold cz
  rcases find_first l (fun p=>ltS key p.Key) (fun k=>(.inl (k:Int):Int⊕Unit)) (.inr ()) (fun (s169:Int)=>bc l key s169) (fun k x hk=>by
   have hlt:=(List.getElem?_eq_some_iff.1 hk).1
   unfold bc table_Put_1
   rw [if_pos (by simpa using hlt),aP hlt,(List.getElem?_eq_some_iff.1 hk).2,IntWalk.i64_in _ ⟨by omega,by omega⟩]
   simp only [Option.bind_some,ltS_not]
   cases h:ltS key x.Key<;>simp [h]) (by unfold bc;rw [if_neg (by simp)]) with ⟨k,x,hk,h1,h2,h3⟩|⟨h1,h3⟩
  ·have hlt:=(List.getElem?_eq_some_iff.1 hk).1
   have e:=ins_pre (r:=l.drop (k+1)) (v:=v) (key:=key) (fun y hy=>by have:=h3 y hy;simp [this]) h2
   rw [←first_split hk] at e
   rw [h1]
   simp only [Option.bind_some]
   rw [if_neg (by simp),ah (by omega),Int.toNat_natCast,e]
   have hd:l.drop k=x::l.drop (k+1):=by rw [List.drop_eq_getElem_cons hlt,(List.getElem?_eq_some_iff.1 hk).2]
   rw [hd];simp
  ·rw [h1]
   simp only [Option.bind_some]
   rw [if_pos (by decide),ah (by omega),ins_none (fun y hy=>by have:=h3 y hy;simp [this])]
theorem tdropF_eq {l:List Pair} (hl:l.length≤2000000000000) (v:Str):bB l v=some (dropP l v):=by
 unfold dropP
 unfold bB cw
 rcases find_first l (fun h=>decide (h.Key=v)) (fun k=>(.inl (k:Int):Int⊕Unit)) (.inr ()) (fun (s169:Int)=>aX l v s169) (fun k x hk=>by
  have hlt:=(List.getElem?_eq_some_iff.1 hk).1
  unfold aX table_Drop_1
  rw [if_pos (by simpa using hlt),aP hlt,(List.getElem?_eq_some_iff.1 hk).2,IntWalk.i64_in _ ⟨by omega,by omega⟩]
  by_cases h:x.Key=v<;>simp [h]) (by unfold aX;rw [if_neg (by simp)]) with ⟨k,x,hk,h1,h2,h3⟩|⟨h1,h3⟩
 ·have hlt:=(List.getElem?_eq_some_iff.1 hk).1
  have hx:=(List.getElem?_eq_some_iff.1 hk).2
  rw [h1]
  simp only [Option.bind_some]
  rw [if_neg (by first|(simp;done)|(simp;omega)),IntWalk.i64_in _ ⟨by omega,by omega⟩]
  obtain ⟨i2,a2,e1,e2,e3,e4⟩:=del_loop l (fun h=>decide (h.Key=v)) (fun (s343:Int×Int×(List Pair))=>aU v s343.1 s343.2.1 s343.2.2)
   (fun i j a x hij ha hx=>by
     have hlt:=(List.getElem?_eq_some_iff.1 hx).1
     simp only
     unfold aU table_Drop_1
     rw [if_pos (by simpa using hlt),aP hlt,(List.getElem?_eq_some_iff.1 hx).2,IntWalk.i64_in ((j:Int)+1) ⟨by omega,by omega⟩,IntWalk.i64_in ((i:Int)+1) ⟨by omega,by omega⟩,aP (show i<a.length by omega)]
     by_cases h:x.Key=v<;>simp [h])
   (fun i a ha=>by
     simp only
     unfold aU
     rw [if_neg (by simp;omega)])
   (l.length - (k+1)) k (k+1) l (by omega) (by omega) rfl rfl (by
     rw [List.take_succ_eq_append_getElem hlt,List.filter_append,hx]
     have hf:(l.take k).filter (fun h=> !decide (h.Key=v))=l.take k:=List.filter_eq_self.2 (fun y hy=>by have:=h3 y hy;simp at this;simp [this])
     have h2':x.Key=v:=by simpa using h2
     rw [hf];simp [List.filter_cons,h2'])
  rw [show ((k:Int)+1)=((k+1:Nat):Int) from rfl,e1]
  simp only [Option.bind_some]
  have hn:(((List.map ac a2).length:Nat):Int).toNat=a2.length:=by simp
  rw [ah (by omega),ah (by omega),ah (by simp only [List.length_append,List.length_take,List.length_drop,List.length_replicate,hn];omega),ah (by simp only [List.length_append,List.length_take,List.length_drop,List.length_replicate,hn,Int.toNat_natCast];omega)]
  rw [Int.toNat_natCast]
  exact congrArg some ((del_end a2 _ _ i2 (by omega)).trans e4)
 ·rw [h1]
  simp only [Option.bind_some]
  rw [if_pos (by decide)]
  congr 1
  exact (List.filter_eq_self.2 (fun y hy=>by have:=h3 y hy;simp at this;simp [this])).symm
theorem tdrop_eq {l:List Pair} (hl:l.length≤2000000000000) (v:Str):table_Drop l v=some (dropP l v):=by
 unfold table_Drop
 rw [ah (by omega),tdropF_eq hl];rfl
theorem tapply_eq {l:List Pair} {w:List Write} (hl:l.length+w.length≤2000000000000):table_Apply l w=some (applyM l w):=by
 unfold table_Apply
 rw [ah (by omega)]
 have h:=fold_loop (ρ:=List Pair) w (fun k (a:List Pair)=>(a,(k:Int))) (fun (s253:(List Pair)×Int)=>table_Apply_l2 w s253.1 s253.2) doW (fun a=>a) (fun k a=>a.length≤l.length+k)
  (fun k x a hk hi=>by
    have hlt:=(List.getElem?_eq_some_iff.1 hk).1
    have hd:=doW_len a x
    refine ⟨?_,by omega⟩
    simp only
    unfold table_Apply_l2 table_write_drop table_write_put
    rw [if_pos (by simpa using hlt),aP hlt,(List.getElem?_eq_some_iff.1 hk).2,IntWalk.i64_in _ ⟨by omega,by omega⟩]
    simp only [Option.bind_some]
    unfold doW
    cases hx:x.Del with
    |true=>simp [tdrop_eq (show a.length≤2000000000000 by omega)]
    |false=>simp [tput_eq (show a.length≤2000000000000 by omega)])
  (fun a hi=>by simp only;unfold table_Apply_l2;rw [if_neg (by simp)]) l (by simp)
 have h1:=h.1
 simp only [Int.natCast_zero,Int.ofNat_eq_natCast] at h1
 rw [h1];rfl
theorem rpairs_eq (a b:List Pair) (ha:a.length≤4398046511104):ref05_Same a b=some (decide (a=b)):=by
 unfold ref05_Same
 by_cases hl:a.length=b.length
 ·rw [if_neg (by simp [hl]),same_rows a b hl (by omega) _ (fun k x y h1 h2=>by
   have hlt:=(List.getElem?_eq_some_iff.1 h1).1
   have hlt2:=(List.getElem?_eq_some_iff.1 h2).1
   unfold ref05_Same_l2
   rw [if_pos (by simpa using hlt),aP hlt,aP hlt2,(List.getElem?_eq_some_iff.1 h1).2,(List.getElem?_eq_some_iff.1 h2).2,IntWalk.i64_in _ ⟨by omega,by omega⟩]
   by_cases h:x=y<;>simp [h]) (by unfold ref05_Same_l2;rw [if_neg (by simp)])]
  by_cases h:a=b<;>simp [h]
 ·rw [if_pos (by simp;omega)]
  have:a≠b:=fun h=>hl (by rw [h])
  simp [this]
end Go.Ab
namespace Go.Ab
set_option linter.unusedVariables false
set_option linter.unusedSimpArgs false
def KeysOk (l:List Pair):Prop:= ∀p∈l,p.Key.length≤1099511627776
theorem rtfind_eq {l:List Pair} (hl:l.length≤2000000000000) (key:Str):ref05_Find l key=some (findM l key):=by
 unfold ref05_Find
 have key0: ∀(m k:Nat),k+m=l.length→(∀y∈l.take k,¬y.Key=key)→
  (∃j x,l[j]? =some x∧x.Key=key∧(∀y∈l.take j,¬y.Key=key)∧loop (fun (s57:Int)=>ref05_Find_l2 l key s57) (k:Int)=some (.inl x.Val))∨((∀y∈l,¬y.Key=key)∧loop (fun (s57:Int)=>ref05_Find_l2 l key s57) (k:Int)=some (.inr ())):=by
  intro m
  induction m with
  |zero=>
   intro k hk hy
   have:k=l.length:=by omega
   subst this
   rw [List.take_length] at hy
   exact .inr ⟨hy,aF (by unfold ref05_Find_l2;rw [if_neg (by simp)])⟩
  |succ m ih=>
   intro k hk hy
   have hlt:k<l.length:=by omega
   by_cases h:l[k].Key=key
   ·refine .inl ⟨k,l[k],List.getElem?_eq_getElem hlt,h,hy,aF ?_⟩
    unfold ref05_Find_l2
    rw [if_pos (by simpa using hlt),aP hlt]
    simp [h]
   ·have hs:ref05_Find_l2 l key (k:Int)=some (.inl ((k+1:Nat):Int)):=by
     unfold ref05_Find_l2
     rw [if_pos (by simpa using hlt),aP hlt,IntWalk.i64_in _ ⟨by omega,by omega⟩]
     simp [h]
    rw [bz hs]
    refine ih (k+1) (by omega) (fun y hy2=> ?_)
    rw [List.take_succ_eq_append_getElem hlt] at hy2
    rcases List.mem_append.1 hy2 with hy2|hy2
    ·exact hy y hy2
    ·simp at hy2;subst hy2;exact h
 rcases key0 l.length 0 (by omega) (by simp) with ⟨j,x,hk,hx,hp,h⟩|⟨hp,h⟩
 ·simp only [Int.natCast_zero,Int.ofNat_eq_natCast] at h
  rw [h]
  have e:=find_pre (r:=l.drop (j+1)) hp hx
  rw [←first_split hk] at e
  rw [e];rfl
 ·simp only [Int.natCast_zero,Int.ofNat_eq_natCast] at h
  rw [h,find_none hp];rfl
def putR (is:Bool) (key v:Str) (s:Bool×List Pair) (x:Pair):Bool×List Pair:=
 if s.1=true then (true,s.2++[x]) else
 if is=true then (if x.Key=key then (true,s.2++[⟨key,v⟩]) else (false,s.2++[x]))
 else (if ltS key x.Key=true then (true,s.2++[⟨key,v⟩]++[x]) else (false,s.2++[x]))
end Go.Ab
namespace Go.Ab
set_option linter.unusedVariables false
set_option linter.unusedSimpArgs false
theorem bad_loop (s n:Nat) (ok:Nat→Bool) (step:Int→Option (Int⊕(Unit⊕Unit))) (hstep: ∀k:Nat,s≤k→k<n→step k=if ok k=true then some (.inl ((k+1:Nat):Int)) else some (.inr (.inl ())))
 (hend: ∀k:Nat,n≤k→step k=some (.inr (.inr ()))):
 (loop step (s:Int)=some (.inr ())∧ ∀k,s≤k→k<n→ok k=true)∨(loop step (s:Int)=some (.inl ())∧ ∃k,s≤k∧k<n∧ok k=false):=by
 have key: ∀(m k:Nat),n≤k+m→s≤k→(∀j,s≤j→j<k→j<n→ok j=true)→
  (loop step (k:Int)=some (.inr ())∧ ∀k,s≤k→k<n→ok k=true)∨(loop step (k:Int)=some (.inl ())∧ ∃k,s≤k∧k<n∧ok k=false):=by
  intro m
  induction m with
  |zero=>
   intro k hk hs hj
   exact .inl ⟨aF (hend k (by omega)),fun j h1 h2=>hj j h1 (by omega) h2⟩
  |succ m ih=>
   intro k hk hs hj
   by_cases hn:k<n
   ·have h:=hstep k hs hn
    cases ho:ok k with
    |true=>
     rw [ho,if_pos rfl] at h
     rw [bz h]
     refine ih (k+1) (by omega) (by omega) (fun j h1 h2 h3=> ?_)
     by_cases e:j=k
     ·rw [e];exact ho
     ·exact hj j h1 (by omega) h3
    |false=>
     rw [ho,if_neg (by simp)] at h
     exact .inr ⟨aF h,k,hs,hn,ho⟩
   ·exact .inl ⟨aF (hend k (by omega)),fun j h1 h2=>hj j h1 (by omega) h2⟩
 exact key n s (by omega) (Nat.le_refl _) (fun j h1 h2 _=>by omega)
theorem riseW_iff (l:List Write):riseW l=true↔ ∀k (h:k+1<l.length),ltS l[k].Key l[k+1].Key=true:=by
 induction l with
 |nil=>simp [riseW]
 |cons a r ih=>
  cases r with
  |nil=>simp [riseW]
  |cons b r=>
   unfold riseW
   rw [Bool.and_eq_true,ih]
   constructor
   ·rintro ⟨h1,h2⟩ k hk
    cases k with
    |zero=>exact h1
    |succ k=>exact h2 k (by simpa using hk)
   ·intro h
    exact ⟨h 0 (by simp),fun k hk=>h (k+1) (by simpa using hk)⟩
theorem rightM_iff (l:List Pair):rightM l=true↔ ∀k (h:k+1<l.length),ltS l[k].Key l[k+1].Key=true:=by
 induction l with
 |nil=>simp [rightM]
 |cons a r ih=>
  cases r with
  |nil=>simp [rightM]
  |cons b r=>
   unfold rightM
   rw [Bool.and_eq_true,ih]
   constructor
   ·rintro ⟨h1,h2⟩ k hk
    cases k with
    |zero=>exact h1
    |succ k=>exact h2 k (by simpa using hk)
   ·intro h
    exact ⟨h 0 (by simp),fun k hk=>h (k+1) (by simpa using hk)⟩
theorem wrap_pred {k:Nat} (h1:1≤k) (h2:k≤1099511627776):IntKind.i64.wrap ((k:Int) - 1)=((k - 1:Nat):Int):=by
 rw [IntWalk.i64_in _ ⟨by omega,by omega⟩];omega
theorem right_eq {l:List Pair} (hl:l.length≤1099511627776):table_Right l=some (rightM l):=by
 unfold table_Right
 rcases bad_loop 1 l.length (fun k=>if h:k<l.length then ltS l[k - 1].Key l[k].Key else true) (fun (s117:Int)=>table_Right_l2 l s117) (fun k h1 h2=>by
  unfold table_Right_l2
  rw [if_pos (by simpa using h2),wrap_pred h1 (by omega),aP (show k - 1<l.length by omega),aP h2,IntWalk.i64_in _ ⟨by omega,by omega⟩]
  simp only [Option.bind_some,dif_pos h2]
  cases h:ltS l[k - 1].Key l[k].Key<;>simp) (fun k hk=>by unfold table_Right_l2;rw [if_neg (by simp;omega)]) with ⟨h1,h2⟩|⟨h1,k,h2,h3,h4⟩
 ·rw [show ((1:Int))=((1:Nat):Int) from rfl,h1]
  have:rightM l=true:=(rightM_iff l).2 (fun k hk=>by
   have:=h2 (k+1) (by omega) hk
   simpa [hk] using this)
  rw [this];rfl
 ·rw [show ((1:Int))=((1:Nat):Int) from rfl,h1]
  have:rightM l=false:=by
   cases hr:rightM l with
   |false=>rfl
   |true=>
    have:=(rightM_iff l).1 hr (k - 1) (by omega)
    simp only [dif_pos h3] at h4
    have e:k - 1+1=k:=by omega
    simp only [e] at this
    rw [this] at h4;cases h4
  rw [this];rfl
def BOk (b:Batch):Prop:= ∀w∈b.Writes,w.Key.length≤1099511627776
theorem may1_eq (w:Write):batch_May_1 w=some (!goodW w):=by
 unfold batch_May_1 goodW
 by_cases h1:w.Key.length<1
 ·rw [if_pos (by simp;omega)]
  have: ¬1≤w.Key.length:=by omega
  simp [this]
 rw [if_neg (by simp;omega)]
 by_cases h2:w.Key.length≤32
 ·rw [if_neg (by simp;omega)]
  by_cases h3:w.Val.length≤64
  ·rw [if_neg (by simp;omega)]
   have h1':1≤w.Key.length:=by omega
   cases hd:w.Del<;>simp [h1',h2,h3]
  ·rw [if_pos (by simp;omega)];simp [h3]
 ·rw [if_pos (by simp;omega)];simp [h2]
theorem bcontains_eq {s:List Write} (hl:s.length≤2000000000000):bw s=some (!s.all goodW):=by
 unfold bw cv
 rcases find_first s (fun w=> !goodW w) (fun k=>(.inl (k:Int):Int⊕Unit)) (.inr ()) (fun (s169:Int)=>aW s s169) (fun k x hk=>by
  have hlt:=(List.getElem?_eq_some_iff.1 hk).1
  unfold aW
  rw [if_pos (by simpa using hlt),aP hlt,(List.getElem?_eq_some_iff.1 hk).2,IntWalk.i64_in _ ⟨by omega,by omega⟩]
  simp only [Option.bind_some,may1_eq]
  cases h:goodW x<;>simp) (by unfold aW;rw [if_neg (by simp)]) with ⟨k,x,hk,h1,h2,h3⟩|⟨h1,h3⟩
 ·rw [h1]
  have:s.all goodW=false:=List.all_eq_false.2 ⟨x,List.mem_of_getElem? hk,by simpa using h2⟩
  rw [this];simp
 ·rw [h1]
  have:s.all goodW=true:=List.all_eq_true.2 (fun x hx=>by simpa using h3 x hx)
  rw [this];simp
theorem headM_iff (b:Batch):((decide (b.Kind=1)||decide (b.Kind=2))&&(decide (1≤b.Token.length)&&decide (b.Token.length≤16))&&decide (b.Writes.length≤24)&& !(decide (b.Kind=2)&&decide (b.Writes≠[])))=true↔(b.Kind=1∨b.Kind=2)∧1≤b.Token.length∧b.Token.length≤16∧b.Writes.length≤24∧(b.Kind=2→b.Writes.length=0):=by
 have e:b.Writes=[]↔b.Writes.length=0:=List.length_eq_zero_iff.symm
 simp only [Bool.and_eq_true,Bool.or_eq_true,decide_eq_true_eq,Bool.not_eq_true',Bool.and_eq_false_iff,decide_eq_false_iff_not,ne_eq,Classical.not_not,e]
 constructor
 ·rintro ⟨⟨⟨h1,h2,h3⟩,h4⟩,h5⟩
  exact ⟨h1,h2,h3,h4,fun hk=>by rcases h5 with h5|h5;exact absurd hk h5;exact h5⟩
 ·rintro ⟨h1,h2,h3,h4,h5⟩
  refine ⟨⟨⟨h1,h2,h3⟩,h4⟩,?_⟩
  by_cases hk:b.Kind=2
  ·exact .inr (h5 hk)
  ·exact .inl hk
theorem mayB_iff (b:Batch):mayB b=true↔((b.Kind=1∨b.Kind=2)∧1≤b.Token.length∧b.Token.length≤16∧b.Writes.length≤24∧(b.Kind=2→b.Writes.length=0))∧riseW b.Writes=true∧b.Writes.all goodW=true:=by
 have e:=headM_iff b
 unfold mayB
 constructor
 ·intro h
  rw [Bool.and_eq_true] at h
  obtain ⟨ha,hb⟩:=h
  rw [Bool.and_eq_true] at hb
  exact ⟨e.1 ha,hb⟩
 ·rintro ⟨ha,hb1,hb2⟩
  rw [Bool.and_eq_true]
  exact ⟨e.2 ha,by rw [hb1,hb2];rfl⟩
theorem bmay_eq {b:Batch}:batch_May b=some (mayB b):=by
 unfold batch_May
 by_cases hh:(b.Kind=1∨b.Kind=2)∧1≤b.Token.length∧b.Token.length≤16∧b.Writes.length≤24∧(b.Kind=2→b.Writes.length=0)
 ·obtain ⟨h1,h2,h3,h4,h5⟩:=hh
  rw [if_neg (by
   by_cases k2:b.Kind=2
   ·have hz:b.Writes=[]:=List.length_eq_zero_iff.1 (h5 k2)
    simp [k2,hz];omega
   ·have k1:b.Kind=1:=by rcases h1 with h|h;exact h;exact absurd h k2
    simp [k1];omega)]
  rcases bad_loop 1 b.Writes.length (fun k=>if h:k<b.Writes.length then ltS b.Writes[k - 1].Key b.Writes[k].Key else true) (fun (s201:Int)=>batch_May_l2 b s201) (fun k h1 h2=>by
   unfold batch_May_l2
   rw [if_pos (by simpa using h2),wrap_pred h1 (by omega),aP (show k - 1<b.Writes.length by omega),aP h2,IntWalk.i64_in _ ⟨by omega,by omega⟩]
   simp only [Option.bind_some,dif_pos h2]
   cases h:ltS b.Writes[k - 1].Key b.Writes[k].Key<;>simp) (fun k hk=>by unfold batch_May_l2;rw [if_neg (by simp;omega)]) with ⟨e1,e2⟩|⟨e1,k,e2,e3,e4⟩
  ·rw [show ((1:Int))=((1:Nat):Int) from rfl,e1]
   have hr:riseW b.Writes=true:=(riseW_iff _).2 (fun k hk=>by
    have:=e2 (k+1) (by omega) hk
    simpa [hk] using this)
   simp only [Option.bind_some]
   rw [bcontains_eq (by omega)]
   simp only [Option.bind_some,Bool.not_not]
   congr 1
   rw [Bool.eq_iff_iff,mayB_iff]
   exact ⟨fun h=>⟨⟨h1,h2,h3,h4,h5⟩,hr,h⟩,fun h=>h.2.2⟩
  ·rw [show ((1:Int))=((1:Nat):Int) from rfl,e1]
   have hf:mayB b=false:=by
    cases hm:mayB b with
    |false=>rfl
    |true=>
     have:=(riseW_iff _).1 ((mayB_iff b).1 hm).2.1 (k - 1) (by omega)
     simp only [dif_pos e3] at e4
     have e:k - 1+1=k:=by omega
     simp only [e] at this
     rw [this] at e4;cases e4
   rw [hf];rfl
 ·have hf:mayB b=false:=by
   cases hm:mayB b with
   |false=>rfl
   |true=>exact absurd ((mayB_iff b).1 hm).1 hh
  rw [hf,if_pos]
  by_cases k1:b.Kind=1
  ·simp [k1] at hh⊢;omega
  ·by_cases k2:b.Kind=2
   ·by_cases hz:b.Writes=[]
    ·simp [k2,hz] at hh⊢;omega
    ·have:=List.length_pos_iff.2 hz
     simp [k2,hz];omega
   ·simp [k1,k2]
end Go.Ab
namespace Go.Ab
set_option linter.unusedVariables false
set_option linter.unusedSimpArgs false
structure SOk (s:State):Prop where
 d:s.Data.length≤1500000000000
 t:s.Toks.length≤1500000000000
theorem decided_eq {s:State} (h:SOk s) (token:Str):batch_Decided s token=some (findM s.Toks token):=by
 unfold batch_Decided
 rw [tfind_eq (by have:=h.t;omega)];rfl
theorem do_eq {s:State} (h:SOk s) (b:Batch):batch_Do s b=some (doB s b):=by
 have hd:=h.d
 have ht:=h.t
 unfold batch_Do doB
 rw [bmay_eq]
 simp only [Option.bind_some]
 cases hm:mayB b with
 |false=>rfl
 |true=>
  have hw:=((mayB_iff b).1 hm).1.2.2.2.1
  rw [decided_eq h]
  simp only [Option.bind_some,findM_has]
  cases hk:hasK s.Toks b.Token with
  |true=>rfl
  |false=>
   simp only [Bool.not_true,Bool.false_eq_true,if_false]
   rw [tapply_eq (by omega)]
   simp only [Option.bind_some]
   rw [tput_eq (by omega)]
   unfold gaveUp
   by_cases h2:b.Kind=2<;>simp [h2]
theorem rsamest_eq {a b:State} (ha:SOk a):ref07_Same a b=some (decide (a=b)):=by
 have hd:=ha.d
 have ht:=ha.t
 unfold ref07_Same
 rw [rpairs_eq _ _ (by omega)]
 simp only [Option.bind_some]
 by_cases h1:a.Data=b.Data
 ·rw [if_pos (by simpa using h1),rpairs_eq _ _ (by omega)]
  simp only [Option.bind_some]
  congr 1
  cases a;cases b;simp only at h1;subst h1;simp
 ·rw [if_neg (by simpa using h1)]
  have:a≠b:=fun e=>h1 (by rw [e])
  simp [this]
theorem wBytes_len {w:Write} (h:goodW w=true):0<(wBytes w).length∧(wBytes w).length≤200:=by
 unfold goodW at h
 simp only [Bool.and_eq_true,decide_eq_true_eq] at h
 obtain ⟨⟨⟨h1,h2⟩,h3⟩,h4⟩:=h
 have k:=textM_le (t:=w.Key) (k:=32) h2 (by omega)
 have v:=textM_le (t:=w.Val) (k:=64) h3 (by omega)
 unfold wBytes delN
 split<;>simp only [List.length_append,List.length_cons,List.length_nil]<;>omega
theorem wsBytes_fold (l:List Write) (a:Str):l.foldl (fun a w=>a++wBytes w) a=a++wsBytes l:=by
 induction l generalizing a with
 |nil=>simp [wsBytes]
 |cons x r ih=>rw [List.foldl_cons,ih];simp [wsBytes]
theorem headB_len {b:Batch} (h:mayB b=true):0<(headB b).length∧(headB b).length≤100:=by
 have hm:=((mayB_iff b).1 h).1
 have n1:=numS_len (n:=b.Kind.toNat) (by omega)
 have n2:=numS_len (n:=b.Writes.length) (by omega)
 have t:=textM_le (t:=b.Token) (k:=16) (by omega) (by omega)
 have p:0<(numS b.Kind.toNat).length:=by unfold numS;simp
 unfold headB
 simp only [List.length_append];omega
theorem bbytes_eq {b:Batch}:batch_Bytes b=some (df b):=by
 unfold batch_Bytes df
 rw [bmay_eq]
 simp only [Option.bind_some]
 cases hm:mayB b with
 |false=>rfl
 |true=>
  obtain ⟨⟨hk,h1,h2,h3,h4⟩,hr,hg⟩:=(mayB_iff b).1 hm
  have hg:=List.all_eq_true.1 hg
  simp only [Bool.not_true,Bool.false_eq_true,if_false]
  have ek:IntKind.u64.wrap b.Kind=((b.Kind.toNat:Nat):Int):=by rw [u64_in (by omega) (by omega)];omega
  have ew:IntKind.u64.wrap (b.Writes.length:Int)=((b.Writes.length:Nat):Int):=u64_in (by omega) (by omega)
  have hl:=headB_len hm
  unfold headB at hl
  simp only [List.length_append] at hl
  rw [ek,ew,num_eq (by omega),text_eq (by omega),num_eq (by omega)]
  simp only [Option.bind_some]
  rw [ah (by omega),ah (by simp only [List.length_append];omega),ah (by simp only [List.length_append,List.length_nil];omega)]
  have h:=fold_loop (ρ:=Str) b.Writes (fun k (a:Str)=>((k:Int),a)) (fun (s301:Int×Str)=>batch_Bytes_l2 b s301.1 s301.2) (fun a w=>a++wBytes w) (fun a=>a) (fun k a=>a.length≤100+200*k∧0<a.length)
   (fun k x a hk hi=>by
     have hlt:=(List.getElem?_eq_some_iff.1 hk).1
     have hgx:=hg x (List.mem_of_getElem? hk)
     have hwl:=wBytes_len hgx
     refine ⟨?_,by simp only [List.length_append];omega⟩
     have hgx2:=hgx
     unfold goodW at hgx2
     simp only [Bool.and_eq_true,decide_eq_true_eq] at hgx2
     obtain ⟨⟨⟨g1,g2⟩,g3⟩,g4⟩:=hgx2
     have hn:dec_Num (if x.Del=true then 1 else 0)=some (delN x):=by
      unfold delN
      cases x.Del with
      |true=>have:=num_eq (n:=1) (by omega);rw [nums1] at this;exact this
      |false=>have:=num_eq (n:=0) (by omega);rw [nums0] at this;exact this
     have hdl:(delN x).length=2:=by unfold delN;split<;>rfl
     have kl:=textM_le (t:=x.Key) (k:=32) g2 (by omega)
     have vl:=textM_le (t:=x.Val) (k:=64) g3 (by omega)
     have hwe:(delN x++bM x.Key)++bM x.Val=wBytes x:=by unfold wBytes;rw [List.append_assoc]
     simp only
     unfold batch_Bytes_l2
     rw [if_pos (by simpa using hlt),aP hlt,(List.getElem?_eq_some_iff.1 hk).2,IntWalk.i64_in _ ⟨by omega,by omega⟩]
     simp only [Option.bind_some]
     rw [hn,text_eq (by omega)]
     simp only [Option.bind_some]
     rw [ah (by omega),text_eq (by omega)]
     simp only [Option.bind_some]
     rw [ah (by simp only [List.length_append];omega),hwe,ah ⟨hwl.1,by omega⟩]
     rfl)
   (fun a hi=>by simp only;unfold batch_Bytes_l2;rw [if_neg (by simp)]) (([]:Str)++((numS b.Kind.toNat++bM b.Token)++numS b.Writes.length)) (by simp only [List.length_append,List.length_nil];omega)
  obtain ⟨e1,e2,e3⟩:=h
  simp only [Int.natCast_zero,Int.ofNat_eq_natCast] at e1
  rw [e1]
  simp only [Option.bind_some]
  rw [ah e3,wsBytes_fold]
  unfold headB
  simp
end Go.Ab
namespace Go.Ab
set_option linter.unusedVariables false
set_option linter.unusedSimpArgs false
structure SK (s:State):Prop where
 ok:SOk s
 d:KeysOk s.Data
 t:KeysOk s.Toks
theorem push_fold {α β:Type} (g:α→β) (l:List α): ∀a:List β,l.foldl (fun a x=>a++[g x]) a=a++l.map g:=by
 induction l with
 |nil=>intro a;simp
 |cons x r ih=>intro a;rw [List.foldl_cons,ih];simp
theorem pairsS_eq {s:State} (h:SK s):batch_Pairs s=some (dE s):=by
 have hd:=h.ok.d
 have ht:=h.ok.t
 unfold batch_Pairs dE
 have l1:=fold_loop (ρ:=List Pair) s.Data (fun k (a:List Pair)=>((k:Int),a)) (fun (s59:Int×(List Pair))=>batch_Pairs_l2 s s59.1 s59.2) (fun a x=>a++[(⟨100::x.Key,x.Val⟩:Pair)]) (fun a=>a) (fun k a=>a.length≤k)
  (fun k x a hk hi=>by
    have hlt:=(List.getElem?_eq_some_iff.1 hk).1
    have hkx:=h.d x (List.mem_of_getElem? hk)
    refine ⟨?_,by simp only [List.length_append,List.length_cons,List.length_nil];omega⟩
    simp only
    unfold batch_Pairs_l2
    rw [if_pos (by simpa using hlt),aP hlt,(List.getElem?_eq_some_iff.1 hk).2,IntWalk.i64_in _ ⟨by omega,by omega⟩]
    simp only [Option.bind_some]
    rw [ah (by simp only [List.length_cons,List.length_nil];omega),ah (by omega)]
    rfl)
  (fun a hi=>by simp only;unfold batch_Pairs_l2;rw [if_neg (by simp)]) [] (by simp)
 have l2:=fold_loop (ρ:=List Pair) s.Toks (fun k (a:List Pair)=>((k:Int),a)) (fun (s115:Int×(List Pair))=>batch_Pairs_l4 s s115.1 s115.2) (fun a x=>a++[(⟨116::x.Key,x.Val⟩:Pair)]) (fun a=>a) (fun k a=>a.length≤1500000000000+k)
  (fun k x a hk hi=>by
    have hlt:=(List.getElem?_eq_some_iff.1 hk).1
    have hkx:=h.t x (List.mem_of_getElem? hk)
    refine ⟨?_,by simp only [List.length_append,List.length_cons,List.length_nil];omega⟩
    simp only
    unfold batch_Pairs_l4
    rw [if_pos (by simpa using hlt),aP hlt,(List.getElem?_eq_some_iff.1 hk).2,IntWalk.i64_in _ ⟨by omega,by omega⟩]
    simp only [Option.bind_some]
    rw [ah (by simp only [List.length_cons,List.length_nil];omega),ah (by omega)]
    rfl)
  (fun a hi=>by simp only;unfold batch_Pairs_l4;rw [if_neg (by simp)]) (s.Data.map (fun p=>(⟨100::p.Key,p.Val⟩:Pair))) (by rw [List.length_map];omega)
 have e1:=l1.1
 have e2:=l2.1
 simp only [Int.natCast_zero,Int.ofNat_eq_natCast] at e1 e2
 rw [e1,push_fold,List.nil_append]
 simp only [Option.bind_some]
 rw [e2,push_fold];rfl
def cutP (s:Str) (c:UInt8):Str×Bool:=match s with|[]=>([],false)|d::r=>if d=c then (r,true) else (d::r,false)
theorem cutPrefix_eq {s:Str} (hs:s.length≤1099511627776) (c:UInt8):strings_CutPrefix s [c]=some (cutP s c):=by
 unfold strings_CutPrefix dq dp
 have h1:(([c]:Str).length:Int)=1:=rfl
 rw [h1]
 cases s with
 |nil=>rw [if_neg (by simp)];rfl
 |cons d r=>
  have hl:(((d::r:Str).length:Nat):Int)=(r.length:Int)+1:=by simp
  rw [if_pos (by rw [hl];simp;omega),ah (by rw [hl];omega),cut_head]
  simp only [Option.bind_some]
  by_cases h:d=c
  ·rw [if_neg (by simp [h]),ah (by rw [hl];omega),cut_tail (by omega) (by rw [hl];omega)]
   simp [cutP,h]
  ·rw [if_pos (by simp [h])]
   simp [cutP,h]
theorem back_loop {l:List Pair} (hl:l.length≤2000000000000) (hk:KeysOk l): ∀(m k:Nat) (d t:List Pair),k+m=l.length→d.length+t.length≤k→
 loop (fun (s1007:Int×(List Pair)×(List Pair))=>batch_Back_l2 l s1007.1 s1007.2.1 s1007.2.2) ((k:Int),d,t)=some (match backF (l.drop k) ⟨d,t⟩ with|none=>.inl ()|some s=>.inr (s.Data,s.Toks)):=by
 intro m
 induction m with
 |zero=>
  intro k d t hm hd
  have:k=l.length:=by omega
  subst this
  rw [List.drop_length]
  refine aF ?_
  simp only
  unfold batch_Back_l2
  rw [if_neg (by simp)];rfl
 |succ m ih=>
  intro k d t hm hd
  have hlt:k<l.length:=by omega
  have hdr:l.drop k=l[k]::l.drop (k+1):=List.drop_eq_getElem_cons hlt
  have hkx:=hk l[k] (List.getElem_mem hlt)
  rw [hdr]
  unfold backF backS
  have hs:batch_Back_l2 l (k:Int) d t=(match backS ⟨d,t⟩ l[k] with|none=>some (.inr (.inl ()))|some s=>some (.inl (((k+1:Nat):Int),s.Data,s.Toks))):=by
   unfold batch_Back_l2 backS
   rw [if_pos (by simpa using hlt),aP hlt,IntWalk.i64_in _ ⟨by omega,by omega⟩]
   simp only [Option.bind_some]
   rw [cutPrefix_eq hkx,cutPrefix_eq hkx]
   simp only [Option.bind_some]
   have n1:(d.length+1)*32≤140737488355328:=by omega
   have n2:(t.length+1)*32≤140737488355328:=by omega
   cases hK:l[k].Key with
   |nil=>simp [cutP]
   |cons c r=>
    by_cases h1:c=100
    ·subst h1
     cases t with
     |nil=>simp [cutP,ah n1]
     |cons p q=>
      have hne: ¬((q.length:Int)+1=0):=by omega
      simp [cutP,hne]
    ·by_cases h2:c=116
     ·subst h2
      by_cases v1:l[k].Val=[99]
      ·simp [cutP,v1,ah n2]
      ·by_cases v2:l[k].Val=[103]
       ·simp [cutP,v2,ah n2]
       ·simp [cutP,v1,v2]
     ·simp [cutP,h1,h2]
  have hb:=hs
  unfold backS at hb
  cases hq:backS ⟨d,t⟩ l[k] with
  |none=>
   rw [hq] at hs
   have hq2:=hq
   unfold backS at hq2
   rw [aF (by simpa using hs),hq2]
  |some s2=>
   rw [hq] at hs
   have hlen:s2.Data.length+s2.Toks.length≤k+1:=by
    unfold backS at hq
    split at hq
    ·cases hq
    ·split at hq
     ·cases hq;simp only [List.length_append,List.length_cons,List.length_nil];omega
     ·split at hq
      ·cases hq;simp only [List.length_append,List.length_cons,List.length_nil];omega
      ·cases hq
   have hq2:=hq
   unfold backS at hq2
   rw [bz (by simpa using hs),hq2]
   exact ih (k+1) s2.Data s2.Toks (by omega) hlen
theorem backB_eq {l:List Pair} (hl:l.length≤2000000000000) (hk:KeysOk l):batch_Back l=some (backM l):=by
 unfold batch_Back backM
 have h:=back_loop hl hk l.length 0 [] [] (by omega) (by simp)
 simp only [Int.natCast_zero,Int.ofNat_eq_natCast,List.drop_zero] at h
 rw [h]
 simp only [Option.bind_some]
 rw [show (⟨[],[]⟩:State)=noState from rfl]
 cases backF l noState<;>rfl
end Go.Ab
namespace Go.Ab
set_option linter.unusedVariables false
set_option linter.unusedSimpArgs false
theorem bnum_eq {s:Str} (hl:s.length≤1099511627776) (ok:Bool) (most:Int):batch_num s ok most=some (if (ok&&((decide ((ae s).2.2=0))&&(decide ((ae s).1≤most))))=true then ((ae s).1,(ae s).2.1,true) else (0,(ae s).2.1,false)):=by
 unfold batch_num
 rw [takeNum_eq hl]
 simp only [Option.bind_some]
 generalize (ok&&((decide ((ae s).2.2=0))&&(decide ((ae s).1≤most))))=c
 cases c<;>rfl
theorem btext_eq {s:Str} (hl:s.length≤1099511627776) (ok:Bool) {most:Int} (hm: -9223372036854775808≤most∧most≤9223372036854775807):batch_text s ok most=some ((ai s most).1,(ai s most).2.1,(ok&&decide ((ai s most).2.2=0))):=by
 unfold batch_text
 rw [takeText_eq hl hm];rfl
theorem takeW_len {s r:Str} {w:Write} (h:takeW s=some (w,r)):r.length≤s.length∧w.Key.length≤s.length∧w.Val.length≤s.length:=by
 have h1:=cT s
 have h2:=cu (ae s).2.1 32
 have h3:=cu (ai (ae s).2.1 32).2.1 64
 unfold takeW at h
 split at h
 ·cases h
 split at h
 ·cases h
 split at h
 ·cases h
 cases h
 simp only
 omega
theorem takeWs_mem (n:Nat): ∀ {s r:Str} {l:List Write},takeWs n s=some (l,r)→l.length=n∧ ∀w∈l,w.Key.length≤s.length:=by
 induction n with
 |zero=>intro s r l h;unfold takeWs at h;cases h;exact ⟨rfl,by simp⟩
 |succ n ih=>
  intro s r l h
  unfold takeWs at h
  cases hw:takeW s with
  |none=>rw [hw] at h;cases h
  |some p=>
   rw [hw] at h
   obtain ⟨w,r1⟩:=p
   simp only at h
   cases hq:takeWs n r1 with
   |none=>rw [hq] at h;cases h
   |some p2=>
    rw [hq] at h
    obtain ⟨l1,q⟩:=p2
    simp only at h
    cases h
    obtain ⟨h1,h2⟩:=ih hq
    have hwl:=takeW_len hw
    refine ⟨by simp [h1],fun x hx=> ?_⟩
    rcases List.mem_cons.1 hx with rfl|hx
    ·exact hwl.2.1
    ·exact Nat.le_trans (h2 x hx) hwl.1
theorem take_round {s:Str} (hl:s.length≤1099511627776) {n:Int} {y:Int×Str×Bool} (hy:y.1=n) {k:Nat} (hk:(k:Int)<n) (hn:n≤24) (ok:Bool) (acc:List Write) (ha:acc.length≤k):
 ∃s' ok' w,dj y (k:Int) s ok acc=some (.inl (((k+1:Nat):Int),s',ok',acc++[w]))∧s'.length≤s.length∧(ok=false→ok'=false)∧(takeW s=none→ok'=false)∧(ok=true→ ∀v r,takeW s=some (v,r)→s'=r∧ok'=true∧w=v):=by
 have h1:=cT s
 have h2:=cu (ae s).2.1 32
 have h3:=cu (ai (ae s).2.1 32).2.1 64
 have hn0:=takeNumM_nat s
 unfold dj
 rw [if_pos (by simpa [hy] using hk),u64_in (by omega) (by omega),bnum_eq hl]
 simp only [Option.bind_some]
 have n1:(acc.length+1)*40≤140737488355328:=by omega
 unfold takeW
 by_cases c1:(ae s).2.2=0∧(ae s).1≤1
 ·cases ok with
  |true=>
   rw [if_pos (by simp [c1.1,c1.2])]
   simp only
   rw [btext_eq (by omega) _ (by omega)]
   simp only [Option.bind_some]
   rw [btext_eq (by omega) _ (by omega)]
   simp only [Option.bind_some]
   rw [ah n1]
   refine ⟨_,_,_,rfl,by omega,fun h=>(by cases h),fun h=> ?_,fun _ v r h=> ?_⟩
   ·rw [if_neg (by omega)] at h
    split at h
    ·rename_i h';simp [h']
    ·split at h
     ·rename_i h';simp [h']
     ·cases h
   ·rw [if_neg (by omega)] at h
    split at h
    ·cases h
    ·split at h
     ·cases h
     ·rename_i g1 g2
      cases h
      have e1:(ai (ae s).2.1 32).2.2=0:=by simpa using g1
      have e2:(ai (ai (ae s).2.1 32).2.1 64).2.2=0:=by simpa using g2
      exact ⟨rfl,by simp [e1,e2],rfl⟩
  |false=>
   rw [if_neg (by simp)]
   simp only
   rw [btext_eq (by omega) _ (by omega)]
   simp only [Option.bind_some]
   rw [btext_eq (by omega) _ (by omega)]
   simp only [Option.bind_some]
   rw [ah n1]
   exact ⟨_,_,_,rfl,by omega,fun _=>by simp,fun h=>by simp,fun h=>by cases h⟩
 ·rw [if_neg (by simp;intro _ h;omega)]
  simp only
  rw [btext_eq (by omega) _ (by omega)]
  simp only [Option.bind_some]
  rw [btext_eq (by omega) _ (by omega)]
  simp only [Option.bind_some]
  rw [ah n1]
  refine ⟨_,_,_,rfl,by omega,fun _=>by simp,fun h=>by simp,fun _ v r h=> ?_⟩
  rw [if_pos (by omega)] at h
  cases h
theorem take_loop {n:Int} {y:Int×Str×Bool} (hy:y.1=n) (hn:n≤24): ∀(m k:Nat) (s:Str) (ok:Bool) (acc:List Write),(k:Int)+m=n→s.length≤1099511627776→acc.length=k→
 (∃s' acc',loop (fun (s96:Int×Str×Bool×(List Write))=>dj y s96.1 s96.2.1 s96.2.2.1 s96.2.2.2) ((k:Int),s,ok,acc)=some (s',false,acc')∧(ok=true→takeWs m s=none))∨
 (∃q l,ok=true∧takeWs m s=some (l,q)∧loop (fun (s96:Int×Str×Bool×(List Write))=>dj y s96.1 s96.2.1 s96.2.2.1 s96.2.2.2) ((k:Int),s,ok,acc)=some (q,true,acc++l)):=by
 intro m
 induction m with
 |zero=>
  intro k s ok acc hk hl ha
  have he:loop (fun (s96:Int×Str×Bool×(List Write))=>dj y s96.1 s96.2.1 s96.2.2.1 s96.2.2.2) ((k:Int),s,ok,acc)=some (s,ok,acc):=aF (by simp only;unfold dj;rw [if_neg (by simp;omega)])
  cases ok with
  |true=>exact .inr ⟨s,[],rfl,rfl,by rw [he,List.append_nil]⟩
  |false=>exact .inl ⟨s,acc,he,fun h=>by cases h⟩
 |succ m ih=>
  intro k s ok acc hk hl ha
  obtain ⟨s',ok',w,h1,h2,h3,h4,h5⟩:=take_round hl hy (k:=k) (by omega) hn ok acc (by omega)
  have hs:= @bz _ _ (fun (s96:Int×Str×Bool×(List Write))=>dj y s96.1 s96.2.1 s96.2.2.1 s96.2.2.2) ((k:Int),s,ok,acc) _ h1
  rw [hs]
  have hi:=ih (k+1) s' ok' (acc++[w]) (by omega) (by omega) (by simp [ha])
  cases hw:takeW s with
  |none=>
   have hf:=h4 hw
   rcases hi with ⟨a,b,e1,_⟩|⟨q,l,e1,_,_⟩
   ·exact .inl ⟨a,b,e1,fun _=>by unfold takeWs;rw [hw]⟩
   ·rw [hf] at e1;cases e1
  |some p=>
   obtain ⟨v,r⟩:=p
   cases ok with
   |false=>
    have hf:=h3 rfl
    rcases hi with ⟨a,b,e1,_⟩|⟨q,l,e1,_,_⟩
    ·exact .inl ⟨a,b,e1,fun h=>by cases h⟩
    ·rw [hf] at e1;cases e1
   |true=>
    obtain ⟨rfl,rfl,rfl⟩:=h5 rfl v r hw
    rcases hi with ⟨a,b,e1,e2⟩|⟨q,l,e1,e2,e3⟩
    ·exact .inl ⟨a,b,e1,fun _=>by unfold takeWs;rw [hw];simp only;rw [e2 rfl]⟩
    ·exact .inr ⟨q,w::l,rfl,by unfold takeWs;rw [hw];simp only;rw [e2],by rw [e3];simp⟩
theorem takeB_eq {s:Str} (hl:s.length≤1099511627776):batch_Take s=some (takeBt s):=by
 have r1:=cT s
 have n1:=takeNumM_nat s
 have r2:=cu (ae s).2.1 16
 have r3:=cT (ai (ae s).2.1 16).2.1
 have n3:=takeNumM_nat (ai (ae s).2.1 16).2.1
 have nos:(({Kind:=0,Token:=[],Writes:=[]}:Batch),(3:Int))=(noBatch,3):=rfl
 have bad: ∀(a:Int) (t:Str) (y:Int×Str×Bool),y.1=0→y.2.2=false→
  ((loop (fun (s96:Int×Str×Bool×(List Write))=>dj y s96.1 s96.2.1 s96.2.2.1 s96.2.2.2) ((0:Int),y.2.1,y.2.2,([]:(List Write)))).bind fun (y94:Str×Bool×(List Write))=>
    (if (!y94.2.1) then some true else if (!decide (y94.1=[])) then some true else (batch_May ({Kind:=a,Token:=t,Writes:=y94.2.2}:Batch)).bind fun y137=>some (!y137)).bind fun (y133:Bool)=>
    if y133 then some (({Kind:=0,Token:=[],Writes:=[]}:Batch),(3:Int)) else some (({Kind:=a,Token:=t,Writes:=y94.2.2}:Batch),0))=some (noBatch,3):=by
  intro a t y hy hf
  rw [aF (r:=(y.2.1,y.2.2,([]:List Write))) (by simp only;unfold dj;rw [if_neg (by rw [hy];simp)])]
  simp [hf,noBatch]
 unfold batch_Take takeBt
 rw [bnum_eq hl]
 simp only [Option.bind_some]
 by_cases c1:(ae s).2.2=0∧(ae s).1≤2
 ·rw [if_pos (by simp [c1.1,c1.2]),if_neg (show ¬((ae s).2.2≠0∨(ae s).1>2) by omega)]
  simp only
  rw [btext_eq (by omega) _ (by omega)]
  simp only [Option.bind_some]
  rw [bnum_eq (by omega)]
  simp only [Option.bind_some]
  by_cases c2:(ai (ae s).2.1 16).2.2=0
  ·rw [if_neg (show ¬((ai (ae s).2.1 16).2.2≠0) by omega)]
   by_cases c3:(ae (ai (ae s).2.1 16).2.1).2.2=0∧(ae (ai (ae s).2.1 16).2.1).1≤24
   ·rw [if_pos (by simp [c2,c3.1,c3.2]),if_neg (show ¬((ae (ai (ae s).2.1 16).2.1).2.2≠0∨(ae (ai (ae s).2.1 16).2.1).1>24) by omega)]
    have hw1:IntKind.i64.wrap (ae s).1=(ae s).1:=IntWalk.i64_in _ ⟨by omega,by omega⟩
    rw [hw1]
    have hlp:=take_loop (n:=(ae (ai (ae s).2.1 16).2.1).1) (y:=((ae (ai (ae s).2.1 16).2.1).1,(ae (ai (ae s).2.1 16).2.1).2.1,true)) rfl c3.2 (ae (ai (ae s).2.1 16).2.1).1.toNat 0 (ae (ai (ae s).2.1 16).2.1).2.1 true [] (by omega) (by omega) rfl
    simp only [Int.natCast_zero,Int.ofNat_eq_natCast] at hlp
    rcases hlp with ⟨s',acc',e1,e2⟩|⟨q,l,_,e2,e1⟩
    ·rw [e2 trivial]
     simp only at e1⊢
     rw [e1]
     simp [noBatch]
    ·rw [e2]
     simp only at e1⊢
     rw [e1]
     simp only [Option.bind_some,List.nil_append,Bool.not_true,Bool.false_eq_true,if_false]
     by_cases hq:q=[]
     ·subst hq
      rw [if_neg (by simp),bmay_eq]
      simp only [Option.bind_some]
      cases hm:mayB ⟨(ae s).1,(ai (ae s).2.1 16).1,l⟩<;>simp [noBatch]
     ·rw [if_pos (by simpa using hq),if_pos (.inl hq)]
      simp [noBatch]
   ·rw [if_neg (by simp [c2];intro h;omega),if_pos (show (ae (ai (ae s).2.1 16).2.1).2.2≠0∨(ae (ai (ae s).2.1 16).2.1).1>24 by omega)]
    exact bad _ _ (0,_,false) rfl rfl
  ·rw [if_pos (show (ai (ae s).2.1 16).2.2≠0 from c2),if_neg (by simp [c2])]
   exact bad _ _ (0,_,false) rfl rfl
 ·rw [if_neg (by simp;intro h;omega),if_pos (show (ae s).2.2≠0∨(ae s).1>2 by omega)]
  simp only
  rw [btext_eq (by omega) _ (by omega)]
  simp only [Option.bind_some]
  rw [bnum_eq (by omega),if_neg (by simp)]
  simp only [Option.bind_some]
  exact bad _ _ (0,_,false) rfl rfl
end Go.Ab
namespace Go.Ab
set_option linter.unusedVariables false
set_option linter.unusedSimpArgs false
end Go.Ab
namespace Go.Ab
set_option linter.unusedVariables false
set_option linter.unusedSimpArgs false
abbrev w64 (n:Int):Int:=IntKind.i64.wrap n
theorem w64_in {n:Int} (h0: -9223372036854775808≤n) (h1:n≤9223372036854775807):IntKind.i64.wrap n=n:=IntWalk.i64_in n ⟨by omega,by omega⟩
theorem search_loop {α ρ:Type} (l:List α) (q:α→Bool) (g:Int→ρ) (e:ρ) (step:Int→Option (Int⊕ρ)) (hl:(l.length:Int)≤9223372036854775807)
 (hstep: ∀(k:Nat) x,l[k]? =some x→step k=if q x=true then some (.inr (g k)) else some (.inl (IntKind.i64.wrap (k+1)))) (hend:step l.length=some (.inr e)):
 loop step 0=some (match l.findIdx? q with|some k=>g (k:Int)|none=>e):=by
 have key: ∀(d k:Nat),k+d=l.length→(∀j x,j<k→l[j]? =some x→q x=false)→loop step (k:Int)=some (match l.findIdx? q with|some k=>g (k:Int)|none=>e):=by
  intro d
  induction d with
  |zero=>
   intro k hk hno
   have hk':k=l.length:=by omega
   subst hk'
   rw [aF hend]
   have:l.findIdx? q=none:=by
    rw [List.findIdx?_eq_none_iff]
    intro x hx
    obtain ⟨j,hj,rfl⟩:=List.getElem_of_mem hx
    exact hno j _ hj (List.getElem?_eq_getElem hj)
   rw [this]
  |succ d ih=>
   intro k hk hno
   have hlt:k<l.length:=by omega
   have hg:=List.getElem?_eq_getElem hlt
   have hs:=hstep k _ hg
   cases hq:q l[k] with
   |true=>
    rw [hq,if_pos rfl] at hs
    rw [aF hs]
    have:l.findIdx? q=some k:=by
     rw [List.findIdx?_eq_some_iff_getElem]
     exact ⟨hlt,hq,fun j hj=>by have:=hno j _ hj (List.getElem?_eq_getElem (by omega));simpa using this⟩
    rw [this]
   |false=>
    rw [hq,if_neg (by simp)] at hs
    rw [bz hs,w64_in (by omega) (by omega)]
    have:=ih (k+1) (by omega) (fun j x hj hx=>by
     rcases Nat.lt_or_ge j k with h|h
     ·exact hno j x h hx
     ·have:j=k:=by omega
      subst this
      rw [hg] at hx
      injection hx with hx
      rw [←hx];exact hq)
    simpa using this
 have:=key l.length 0 (by omega) (fun j x hj=>by omega)
 simpa using this
def isF (name:Str) (f:File):Bool:=decide (f.Name=name)
def idxOf (fs:List File) (name:Str):Option Nat:=fs.findIdx? (isF name)
def idxI (fs:List File) (name:Str):Int:=match idxOf fs name with|some k=>(k:Int)|none=> -1
def noFile:File:=⟨[],[],[]⟩
def aj (fs:List File) (name:Str):File:=(fs.find? (isF name)).getD noFile
def has (fs:List File) (name:Str):Bool:=fs.any (isF name)
theorem idxI_neg {fs:List File} {name:Str}:idxI fs name<0↔has fs name=false:=by
 unfold idxI idxOf has
 cases h:fs.findIdx? (isF name) with
 |none=>
  rw [List.findIdx?_eq_none_iff] at h
  simp only [List.any_eq_false]
  exact ⟨fun _ f hf=>by simpa using h f hf,fun _=>by omega⟩
 |some k=>
  rw [List.findIdx?_eq_some_iff_getElem] at h
  obtain ⟨hlt,h1,_⟩:=h
  constructor
  ·intro h;simp only at h;omega
  ·intro h
   rw [List.any_eq_false] at h
   exact absurd h1 (h _ (List.getElem_mem hlt))
theorem cJ {fs:List File} {name:Str} (h:has fs name=true):0≤idxI fs name∧(idxI fs name).toNat<fs.length∧fs[(idxI fs name).toNat]? =some (aj fs name)∧(aj fs name).Name=name:=by
 unfold idxI idxOf aj
 cases hi:fs.findIdx? (isF name) with
 |none=>
  rw [List.findIdx?_eq_none_iff] at hi
  unfold has at h
  rw [List.any_eq_true] at h
  obtain ⟨f,hf,h1⟩:=h
  have:=hi f hf
  rw [this] at h1;cases h1
 |some k=>
  rw [List.findIdx?_eq_some_iff_getElem] at hi
  obtain ⟨hlt,h1,h3⟩:=hi
  have hf:fs.find? (isF name)=some fs[k]:=by
   rw [List.find?_eq_some_iff_getElem]
   exact ⟨h1,k,hlt,rfl,fun j hj=>by have:=h3 j hj;simpa using this⟩
  simp only [hf,Option.getD]
  exact ⟨by omega,by simpa using hlt,by simp [hlt],by simpa [isF] using h1⟩
theorem idxI_ix {fs:List File} {name:Str} (h:has fs name=true):ix fs (idxI fs name)=some (aj fs name):=by
 obtain ⟨h1,h2,h3,_⟩:=cJ h
 unfold ix;rw [if_pos h1,h3]
theorem idxI_pos {fs:List File} {name:Str} (h:has fs name=true): ¬idxI fs name<0:=by rw [idxI_neg,h];simp
theorem dh {fs:List File} {name:Str} (h:has fs name=false):aj fs name=noFile:=by
 unfold aj
 unfold has at h
 rw [List.any_eq_false] at h
 rw [List.find?_eq_none.2 (fun f hf=>h f hf)]
 rfl
theorem fileAt_mem {fs:List File} {name:Str} (h:has fs name=true):aj fs name∈fs:=List.mem_of_getElem? (cJ h).2.2.1
def cG (f:File):Nat:=f.Safe.length+f.Wait.length
structure DOk (d:Disk):Prop where
 lenS:d.Files.length≤1073741824
 size: ∀f∈d.Files,cG f≤1099511627776
 room: -9223372036854775808≤d.Room∧d.Room≤9223372036854775807
 fuse: -9223372036854775808≤d.Fuse∧d.Fuse≤9223372036854775807
theorem DOk.len {d:Disk} (h:DOk d):d.Files.length≤2000000000:=Nat.le_trans h.lenS (by decide)
theorem fsize_at {d:Disk} (h:DOk d) (name:Str):cG (aj d.Files name)≤1099511627776:=by
 cases hh:has d.Files name with
 |true=>exact h.size _ (fileAt_mem hh)
 |false=>rw [dh hh];simp [noFile,cG]
theorem at_eq {d:Disk} (hl:d.Files.length≤2000000000) (name:Str):disk_at d name=some (idxI d.Files name):=by
 unfold disk_at cX
 rw [search_loop d.Files (isF name) (fun k=>.inl k) (.inr ()) _ (by omega) ?_ ?_]
 ·unfold idxI idxOf
  cases d.Files.findIdx? (isF name)<;>rfl
 ·intro k x hx
  have hlt:=(List.getElem?_eq_some_iff.1 hx).1
  unfold bP
  rw [if_pos (by simpa using hlt),ix_nat,hx]
  rfl
 ·unfold bP
  rw [if_neg (by simp)]
theorem find_eq {d:Disk} (hl:d.Files.length≤2000000000) (name:Str):disk_Find d name=some (aj d.Files name,has d.Files name):=by
 unfold disk_Find
 rw [at_eq hl]
 simp only [Option.bind_some]
 cases hh:has d.Files name with
 |true=>rw [if_neg (by simpa using idxI_pos hh),idxI_ix hh];rfl
 |false=>rw [if_pos (by simpa using idxI_neg.2 hh),dh hh];rfl
def readM (d:Disk) (name:Str):Str×Int:=if has d.Files name then ((aj d.Files name).Safe++(aj d.Files name).Wait,0) else ([],7)
theorem read_eq {d:Disk} (h:DOk d) (name:Str):disk_Read d name=some (readM d name):=by
 unfold disk_Read readM
 rw [find_eq h.len]
 have:=fsize_at h name
 unfold cG at this
 simp only [Option.bind_some]
 cases hh:has d.Files name with
 |true=>simp [ah (show (aj d.Files name).Safe.length+(aj d.Files name).Wait.length≤9223372036854775807 by omega)]
 |false=>simp
def newM (room:Int):Disk×Int:=if room<0 then (⟨[],0,0,false⟩,1) else (⟨[],room, -1,false⟩,0)
theorem rnew_eq (room:Int):ref03_New room=some (newM room):=by
 unfold ref03_New newM
 by_cases h:room<0<;>simp [h]
def named (name:Str):Bool:=decide (1≤name.length)&&decide (name.length≤16)
theorem named_eq (name:Str):disk_named name=some (named name):=by
 unfold disk_named named
 by_cases h:1≤name.length
 ·rw [if_pos (by simp;omega)];simp [h];omega
 ·rw [if_neg (by simp;omega)];simp [h]
theorem size_eq {f:File} (h:cG f≤1099511627776):disk_size f=some (cG f:Int):=by
 unfold disk_size cG at*
 rw [w64_in (by omega) (by omega)]
 simp
theorem set_eq {l:List File} (hl:l.length≤2000000000) {i:Int} (h0:0≤i) (h1:i.toNat<l.length) (x:File):disk_set_File l i x=some (l.set i.toNat x):=by
 unfold disk_set_File
 rw [ah (by omega)]
 unfold ix
 rw [if_pos h0,List.getElem?_eq_getElem h1]
 rfl
def setF (fs:List File) (name:Str) (f:File):List File:=fs.set (idxI fs name).toNat f
def bn (d:Disk) (name:Str):Disk×Int:=
 if d.Off then (d,6) else if has d.Files name=false then (d,7) else
 ({d with Files:=setF d.Files name ⟨(aj d.Files name).Name,(aj d.Files name).Safe++(aj d.Files name).Wait,[]⟩},0)
theorem sync_eq {d:Disk} (h:DOk d) (name:Str):disk_Sync d name=some (bn d name):=by
 unfold disk_Sync bn
 rw [at_eq h.len]
 have:=fsize_at h name
 unfold cG at this
 simp only [Option.bind_some]
 cases ho:d.Off with
 |true=>simp
 |false=>
  cases hh:has d.Files name with
  |false=>simp [idxI_neg.2 hh]
  |true=>
   have g:=cJ hh
   rw [if_neg (by simp),if_neg (by simpa using idxI_pos hh),idxI_ix hh]
   simp only [Option.bind_some]
   rw [ah (by omega),set_eq h.len g.1 g.2.1]
   simp [setF,ho]
end Go.Ab
namespace Go.Ab
set_option linter.unusedVariables false
set_option linter.unusedSimpArgs false
theorem count_loop {σ ρ:Type} (step:σ→Option (σ⊕ρ)) (st:Nat→σ) (n:Nat) (r:ρ) (h: ∀k,k<n→step (st k)=some (.inl (st (k+1)))) (hend:step (st n)=some (.inr r)):loop step (st 0)=some r:=by
 have key: ∀d k,k+d=n→loop step (st k)=some r:=by
  intro d
  induction d with
  |zero=>
   intro k hk
   have:k=n:=by omega
   subst this
   exact aF hend
  |succ d ih=>
   intro k hk
   rw [bz (h k (by omega))]
   exact ih (k+1) (by omega)
 exact key n 0 (by omega)
def torn (fuse:Int) (s:Str):Str:=if 0≤fuse∧fuse<s.length then s.take fuse.toNat else s
theorem torn_le (fuse:Int) (s:Str):(torn fuse s).length≤s.length:=by
 unfold torn
 split
 ·rw [List.length_take];omega
 ·exact Nat.le_refl _
def withF (fs:List File) (name:Str):List File:=if has fs name then fs else fs++[⟨name,[],[]⟩]
def av (d:Disk) (name s:Str):Disk×Int:=
 if d.Off then (d,6) else
 if named name=false then (d,1) else
 if (has d.Files name=false∧64≤d.Files.length)∨d.Room<s.length then (d,5) else
 if 65536<(cG (aj d.Files name):Int)+s.length then (d,4) else
 (⟨setF (withF d.Files name) name ⟨name,(aj d.Files name).Safe,(aj d.Files name).Wait++torn d.Fuse s⟩,d.Room - (torn d.Fuse s).length,if 0≤d.Fuse then d.Fuse - (torn d.Fuse s).length else d.Fuse,decide ((torn d.Fuse s).length<s.length)⟩,
   if (torn d.Fuse s).length<s.length then 6 else 0)
theorem has_with (fs:List File) (name:Str):has (withF fs name) name=true:=by
 unfold withF
 cases h:has fs name with
 |true=>rw [if_pos rfl];exact h
 |false=>rw [if_neg (by simp)];unfold has;simp [isF]
theorem new_idx {fs:List File} {name:Str} (h:has fs name=false):idxI (fs++[⟨name,[],[]⟩]) name=fs.length∧aj (fs++[⟨name,[],[]⟩]) name=⟨name,[],[]⟩:=by
 have hn:=h
 unfold has at hn
 rw [List.any_eq_false] at hn
 constructor
 ·have:idxOf (fs++[⟨name,[],[]⟩]) name=some fs.length:=by
   unfold idxOf
   rw [List.findIdx?_eq_some_iff_getElem]
   refine ⟨by simp,by simp [isF],fun j hj=> ?_⟩
   rw [List.getElem_append_left hj]
   exact hn _ (List.getElem_mem hj)
  unfold idxI
  rw [this]
 ·unfold aj
  rw [List.find?_append,List.find?_eq_none.2 (fun f hf=>hn f hf)]
  simp [isF]
theorem fileAt_with (fs:List File) (name:Str):aj (withF fs name) name=⟨name,(aj fs name).Safe,(aj fs name).Wait⟩:=by
 unfold withF
 cases h:has fs name with
 |true=>
  rw [if_pos rfl]
  have:=(cJ h).2.2.2
  cases hf:aj fs name
  rw [hf] at this
  simp only at this
  subst this
  rfl
 |false=>rw [if_neg (by simp),(new_idx h).2,dh h];rfl
theorem with_len (fs:List File) (name:Str):(withF fs name).length≤fs.length+1:=by
 unfold withF;split<;>simp
theorem cut_zero {s:Str} {n:Int}:cut s 0 n=s.take n.toNat:=by simp [cut]
def taken (fuse:Int) (s:Str):Int:=if ((decide (fuse≥0))&&(decide (fuse<(s.length:Int)))) then fuse else (s.length:Int)
theorem app_off {d:Disk} {name s:Str} (h:d.Off=true):av d name s=(d,6):=by simp [av,h]
theorem app_name {d:Disk} {name s:Str} (h:d.Off=false) (h1:named name=false):av d name s=(d,1):=by simp [av,h,h1]
theorem app_full {d:Disk} {name s:Str} (h:d.Off=false) (h1:named name=true) (h2:(has d.Files name=false∧64≤d.Files.length)∨d.Room<s.length):av d name s=(d,5):=by
 unfold av;simp only [h,h1];rw [if_neg (by simp),if_neg (by simp),if_pos h2]
theorem app_big {d:Disk} {name s:Str} (h:d.Off=false) (h1:named name=true) (h2: ¬((has d.Files name=false∧64≤d.Files.length)∨d.Room<s.length)) (h3:65536<(cG (aj d.Files name):Int)+s.length):av d name s=(d,4):=by
 unfold av;simp only [h,h1];rw [if_neg (by simp),if_neg (by simp),if_neg h2,if_pos h3]
theorem app_main {d:Disk} {name s:Str} (h:d.Off=false) (h1:named name=true) (h2: ¬((has d.Files name=false∧64≤d.Files.length)∨d.Room<s.length)) (h3: ¬65536<(cG (aj d.Files name):Int)+s.length):av d name s=
 (⟨setF (withF d.Files name) name ⟨name,(aj d.Files name).Safe,(aj d.Files name).Wait++torn d.Fuse s⟩,d.Room - (torn d.Fuse s).length,if 0≤d.Fuse then d.Fuse - (torn d.Fuse s).length else d.Fuse,decide ((torn d.Fuse s).length<s.length)⟩,
 if (torn d.Fuse s).length<s.length then 6 else 0):=by
 unfold av;simp only [h,h1];rw [if_neg (by simp),if_neg (by simp),if_neg h2,if_neg h3]
theorem tail_eq (fs:List File) (room fuse:Int) (s:Str) (hr: -9223372036854775808≤room∧room≤9223372036854775807) (hf: -9223372036854775808≤fuse∧fuse≤9223372036854775807) (h2: ¬room<s.length):
 (if decide (((torn fuse s).length:Int)<(s.length:Int))=true then
   some (({Files:=fs,Room:=(IntKind.i64.wrap (room - ((torn fuse s).length:Int))),Fuse:=(if (decide (fuse≥0))=true then (IntKind.i64.wrap (fuse - ((torn fuse s).length:Int))) else fuse),Off:=true}:Disk),(6:Int))
 else
  some (({Files:=fs,Room:=(IntKind.i64.wrap (room - ((torn fuse s).length:Int))),Fuse:=(if (decide (fuse≥0))=true then (IntKind.i64.wrap (fuse - ((torn fuse s).length:Int))) else fuse),Off:=false}:Disk),0))=
 some (⟨fs,room - (torn fuse s).length,if 0≤fuse then fuse - (torn fuse s).length else fuse,decide ((torn fuse s).length<s.length)⟩,if (torn fuse s).length<s.length then 6 else 0):=by
 have htl:=torn_le fuse s
 have e1:IntKind.i64.wrap (room - ((torn fuse s).length:Int))=room - ((torn fuse s).length:Int):=w64_in (by omega) (by omega)
 have e2:(if decide (fuse≥0)=true then IntKind.i64.wrap (fuse - ((torn fuse s).length:Int)) else fuse)=if 0≤fuse then fuse - ((torn fuse s).length:Int) else fuse:=by
  have hle:0≤fuse→((torn fuse s).length:Int)≤fuse∨True:=fun _=>.inr trivial
  by_cases hp:0≤fuse
  ·have hlen:((torn fuse s).length:Int)≤s.length:=by omega
   rw [if_pos (show decide (fuse≥0)=true by simpa using hp),if_pos hp,w64_in (by omega) (by omega)]
  ·rw [if_neg (show ¬decide (fuse≥0)=true by simpa using hp),if_neg hp]
 rw [e1,e2]
 by_cases ht:(torn fuse s).length<s.length
 ·rw [if_pos (show decide (((torn fuse s).length:Int)<(s.length:Int))=true by simpa using ht)];simp [ht]
 ·rw [if_neg (show ¬decide (((torn fuse s).length:Int)<(s.length:Int))=true by simpa using ht)];simp [ht]
theorem append_eq {d:Disk} (h:DOk d) (name s:Str) (hs:s.length≤1099511627776):disk_Append d name s=some (av d name s):=by
 have hl:=h.lenS
 have hr:=h.room
 have hf:=h.fuse
 have hz:=fsize_at h name
 have htl:=torn_le d.Fuse s
 unfold disk_Append
 rw [find_eq h.len]
 simp only [Option.bind_some]
 cases ho:d.Off with
 |true=>rw [app_off ho];rfl
 |false=>
  rw [named_eq]
  simp only [Option.bind_some]
  cases hn:named name with
  |false=>rw [app_name ho hn];rfl
  |true=>
   rw [if_neg (show ¬false=true by simp),if_neg (show ¬(!true)=true by simp)]
   by_cases hfull:(has d.Files name=false∧64≤d.Files.length)∨d.Room<s.length
   ·rw [app_full ho hn hfull]
    by_cases h1:has d.Files name=false∧64≤d.Files.length
    ·rw [if_pos (show (!has d.Files name&&decide ((d.Files.length:Int)≥64))=true by rw [h1.1];simp;omega)];rfl
    ·rw [if_neg (show ¬(!has d.Files name&&decide ((d.Files.length:Int)≥64))=true by simp;intro x;have: ¬64≤d.Files.length:=fun y=>h1 ⟨x,y⟩;omega),
      if_pos (show decide ((s.length:Int)>d.Room)=true by have:=hfull.resolve_left h1;simpa using this)];rfl
   ·have h1: ¬(has d.Files name=false∧64≤d.Files.length):=fun x=>hfull (.inl x)
    have h2: ¬d.Room<s.length:=fun x=>hfull (.inr x)
    rw [if_neg (show ¬(!has d.Files name&&decide ((d.Files.length:Int)≥64))=true by simp;intro x;have: ¬64≤d.Files.length:=fun y=>h1 ⟨x,y⟩;omega),
     if_neg (show ¬decide ((s.length:Int)>d.Room)=true by simpa using h2),size_eq hz]
    simp only [Option.bind_some]
    rw [w64_in (n:=(cG (aj d.Files name):Int)+_) (by omega) (by omega)]
    by_cases h3:65536<(cG (aj d.Files name):Int)+s.length
    ·rw [app_big ho hn hfull h3,if_pos (show decide ((cG (aj d.Files name):Int)+s.length>65536)=true by simpa using h3)];rfl
    ·rw [app_main ho hn hfull h3,if_neg (show ¬decide ((cG (aj d.Files name):Int)+s.length>65536)=true by simpa using h3)]
     simp only [Option.bind_some]
     have e1:(if (!has d.Files name)=true then aL (d.Files.length*48≤140737488355328) (aL ((d.Files.length+1)*48≤140737488355328) (some (d.Files++[({Name:=name,Safe:=[],Wait:=[]}:File)]))) else some d.Files)=some (withF d.Files name):=by
      unfold withF
      cases hh:has d.Files name with
      |true=>rfl
      |false=>simp only [Bool.not_false,if_true];rw [ah (by omega),ah (by omega)];rfl
     have e2:(if (decide (d.Fuse≥0)&&decide (d.Fuse<(s.length:Int)))=true then aL (0≤(0:Int)∧0≤d.Fuse∧d.Fuse≤(s.length:Int)) (some (cut s 0 d.Fuse)) else some s)=some (torn d.Fuse s):=by
      unfold torn
      by_cases hc:0≤d.Fuse∧d.Fuse<s.length
      ·rw [if_pos (by simpa using hc),if_pos hc,ah (by omega),cut_zero]
      ·rw [if_neg (by simpa using hc),if_neg hc]
     rw [e1]
     simp only [Option.bind_some]
     rw [e2]
     simp only [Option.bind_some]
     have hwl:=with_len d.Files name
     rw [at_eq (d:= {Files:=withF d.Files name,Room:=d.Room,Fuse:=d.Fuse,Off:=false}) (by simp only;have:=h.lenS;omega)]
     simp only [Option.bind_some]
     have g:=cJ (has_with d.Files name)
     rw [idxI_ix (has_with d.Files name)]
     simp only [Option.bind_some]
     unfold cG at hz
     rw [fileAt_with]
     simp only
     rw [ah (by omega),set_eq (by omega) g.1 g.2.1]
     simp only [Option.bind_some]
     exact tail_eq _ d.Room d.Fuse s hr hf h2
end Go.Ab
namespace Go.Ab
set_option linter.unusedVariables false
set_option linter.unusedSimpArgs false
def keepOf (keeps:List Int) (i:Nat) (f:File):Nat:=(min (max (keeps.getD i 0) 0) (f.Wait.length:Int)).toNat
def crashF (keeps:List Int) (i:Nat) (f:File):File:=⟨f.Name,f.Safe++f.Wait.take (keepOf keeps i f),[]⟩
def crashR (keeps:List Int) (fs:List File) (room:Int):Nat→Int
 |0=>room
 |k+1=>match fs[k]? with
  |some f=>IntKind.i64.wrap (crashR keeps fs room k+((f.Wait.length:Int) - keepOf keeps k f))
  |none=>crashR keeps fs room k
def crashTo (keeps:List Int) (fs:List File) (k:Nat):List File:=fs.mapIdx (fun i f=>if i<k then crashF keeps i f else f)
def crashM (d:Disk) (keeps:List Int):Disk:=⟨d.Files.mapIdx (crashF keeps),crashR keeps d.Files d.Room d.Files.length, -1,false⟩
theorem keep_le (keeps:List Int) (i:Nat) (f:File):keepOf keeps i f≤f.Wait.length:=by unfold keepOf;omega
theorem wrapR (a b c:Int):IntKind.i64.wrap (a+IntKind.i64.wrap (b - c))=IntKind.i64.wrap (a+(b - c)):=by
 rw [IntKind.wrap_i64,IntKind.wrap_i64,IntKind.wrap_i64];omega
theorem crashTo_len (keeps:List Int) (fs:List File) (k:Nat):(crashTo keeps fs k).length=fs.length:=by simp [crashTo]
theorem crashTo_zero (keeps:List Int) (fs:List File):crashTo keeps fs 0=fs:=by
 apply List.ext_getElem?
 intro i
 simp [crashTo]
theorem crashTo_all (keeps:List Int) (fs:List File):crashTo keeps fs fs.length=fs.mapIdx (crashF keeps):=by
 apply List.ext_getElem?
 intro i
 simp only [crashTo,List.getElem?_mapIdx]
 cases h:fs[i]? with
 |none=>rfl
 |some f=>
  have:=(List.getElem?_eq_some_iff.1 h).1
  simp [this]
theorem crashTo_at {keeps:List Int} {fs:List File} {k:Nat} {f:File} (h:fs[k]? =some f):(crashTo keeps fs k)[k]? =some f:=by
 simp [crashTo,h]
theorem crashTo_succ {keeps:List Int} {fs:List File} {k:Nat} {f:File} (h:fs[k]? =some f):(crashTo keeps fs k).set k (crashF keeps k f)=crashTo keeps fs (k+1):=by
 apply List.ext_getElem?
 intro i
 rw [List.getElem?_set]
 by_cases hi:k=i
 ·subst hi
  have:=(List.getElem?_eq_some_iff.1 h).1
  rw [if_pos rfl,if_pos (by rw [crashTo_len];exact this)]
  simp [crashTo,h]
 ·rw [if_neg hi]
  simp only [crashTo,List.getElem?_mapIdx]
  cases fs[i]? with
  |none=>rfl
  |some g=>
   by_cases h1:i<k
   ·simp [h1,show i<k+1 by omega]
   ·simp [h1,show ¬i<k+1 by omega]
theorem crashR_succ {keeps:List Int} {fs:List File} {room:Int} {k:Nat} {f:File} (h:fs[k]? =some f):crashR keeps fs room (k+1)=IntKind.i64.wrap (crashR keeps fs room k+((f.Wait.length:Int) - keepOf keeps k f)):=by
 simp only [crashR,h]
theorem keep_prog (keeps:List Int) (k:Nat) (f:File):
 (if (decide ((k:Int)<(keeps.length:Int)))=true then
   (ix keeps (k:Int)).bind fun x318=>some (if (f.Wait.length:Int)<(if x318<0 then 0 else x318) then (f.Wait.length:Int) else (if x318<0 then 0 else x318))
 else some (0:Int))=some (keepOf keeps k f:Int):=by
 by_cases h:k<keeps.length
 ·rw [if_pos (by simpa using h),ix_get h]
  simp only [Option.bind_some]
  unfold keepOf
  rw [List.getD_eq_getElem?_getD,List.getElem?_eq_getElem h]
  simp only [Option.getD_some]
  congr 1
  split<;>split<;>omega
 ·rw [if_neg (by simpa using h)]
  unfold keepOf
  rw [List.getD_eq_getElem?_getD,List.getElem?_eq_none (by omega)]
  simp
  omega
theorem crash_eq {d:Disk} (h:DOk d) (keeps:List Int):disk_Crash d keeps=some (crashM d keeps):=by
 have hl:=h.lenS
 unfold disk_Crash crashM
 rw [ah (by omega)]
 have:=count_loop (fun (s272:Int×Int×(List File))=>disk_Crash_l2 d keeps s272.1 s272.2.1 s272.2.2) (fun k=>((k:Int),crashR keeps d.Files d.Room k,crashTo keeps d.Files k)) d.Files.length
  (crashR keeps d.Files d.Room d.Files.length,crashTo keeps d.Files d.Files.length) ?_ ?_
 ·simp only [crashTo_zero,crashR] at this
  rw [show ((0:Nat):Int)=0 from rfl] at this
  rw [this]
  simp only [Option.bind_some]
  rw [crashTo_all]
 ·intro k hk
  have hg:d.Files[k]? =some d.Files[k]:=List.getElem?_eq_getElem hk
  unfold disk_Crash_l2
  simp only
  rw [if_pos (by simpa using hk),ix_nat,crashTo_at hg]
  simp only [Option.bind_some]
  rw [keep_prog]
  simp only [Option.bind_some]
  have hk2:=keep_le keeps k d.Files[k]
  have hsz:=h.size _ (List.getElem_mem hk)
  unfold cG at hsz
  rw [cut_zero,ah (by omega),ah (by rw [List.length_take];omega),w64_in (n:=(k:Int)+1) (by omega) (by omega),wrapR,crashR_succ hg,Int.toNat_natCast,Int.toNat_natCast]
  have:=crashTo_succ (keeps:=keeps) hg
  unfold crashF at this
  rw [this]
  rfl
 ·unfold disk_Crash_l2
  simp only
  rw [if_neg (by simp)]
end Go.Ab
namespace Go.Ab
set_option linter.unusedVariables false
set_option linter.unusedSimpArgs false
theorem idx_names {fs gs:List File} (h:fs.map (·.Name)=gs.map (·.Name)) (n:Str):idxOf fs n=idxOf gs n:=by
 have e: ∀l:List File,idxOf l n=(l.map (·.Name)).findIdx? (fun x=>decide (x=n)):=by
  intro l
  rw [List.findIdx?_map]
  rfl
 rw [e,e,h]
theorem idxI_names {fs gs:List File} (h:fs.map (·.Name)=gs.map (·.Name)) (n:Str):idxI fs n=idxI gs n:=by unfold idxI;rw [idx_names h]
theorem has_names {fs gs:List File} (h:fs.map (·.Name)=gs.map (·.Name)) (n:Str):has fs n=has gs n:=by
 have e: ∀l:List File,has l n=(l.map (·.Name)).any (fun x=>decide (x=n)):=by
  intro l
  rw [List.any_map]
  rfl
 rw [e,e,h]
theorem setF_names {fs:List File} {name:Str} {f:File} (h:has fs name=true) (hf:f.Name=name):(setF fs name f).map (·.Name)=fs.map (·.Name):=by
 obtain ⟨g1,g2,g3,g4⟩:=cJ h
 apply List.ext_getElem?
 intro i
 simp only [setF,List.getElem?_map,List.getElem?_set]
 by_cases hi:(idxI fs name).toNat=i
 ·subst hi
  rw [if_pos rfl,if_pos g2,g3]
  simp [hf,g4]
 ·rw [if_neg hi]
theorem setF_has {fs:List File} {name:Str} {f:File} (h:has fs name=true) (hf:f.Name=name) (n:Str):has (setF fs name f) n=has fs n:=has_names (setF_names h hf) n
theorem setF_idx {fs:List File} {name:Str} {f:File} (h:has fs name=true) (hf:f.Name=name) (n:Str):idxI (setF fs name f) n=idxI fs n:=idxI_names (setF_names h hf) n
theorem setF_at {fs:List File} {name:Str} {f:File} (h:has fs name=true) (hf:f.Name=name):aj (setF fs name f) name=f:=by
 have h1:=setF_has h hf name
 rw [h] at h1
 have:=(cJ h1).2.2.1
 rw [setF_idx h hf] at this
 unfold setF at this
 rw [List.getElem?_set_self (cJ h).2.1] at this
 exact (Option.some.inj this).symm
theorem setF_len (fs:List File) (name:Str) (f:File):(setF fs name f).length=fs.length:=by simp [setF]
theorem setF_mem {fs:List File} {name:Str} {f x:File} (h:x∈setF fs name f):x∈fs∨x=f:=List.mem_or_eq_of_mem_set h
theorem sync_ok {d:Disk} (h:DOk d) (name:Str):DOk (bn d name).1:=by
 unfold bn
 split
 ·exact h
 ·split
  ·exact h
  ·rename_i h1 h2
   have hh:has d.Files name=true:=by simpa using h2
   refine ⟨by simpa [setF_len] using h.lenS,fun f hf=> ?_,h.room,h.fuse⟩
   rcases setF_mem hf with hf|rfl
   ·exact h.size f hf
   ·have:=fsize_at h name
    unfold cG at*
    simp only [List.length_append,List.length_nil]
    omega
theorem wrap_in (n:Int): -9223372036854775808≤IntKind.i64.wrap n∧IntKind.i64.wrap n≤9223372036854775807:=by
 rw [IntKind.wrap_i64];omega
theorem crashR_in {room:Int} (h: -9223372036854775808≤room∧room≤9223372036854775807) (keeps:List Int) (fs:List File): ∀k, -9223372036854775808≤crashR keeps fs room k∧crashR keeps fs room k≤9223372036854775807
 |0=>h
 |k+1=>by
  unfold crashR
  split
  ·exact wrap_in _
  ·exact crashR_in h keeps fs k
theorem crash_ok {d:Disk} (h:DOk d) (keeps:List Int):DOk (crashM d keeps):=by
 refine ⟨by simpa [crashM] using h.lenS,fun f hf=> ?_,crashR_in h.room _ _ _,by simp [crashM]⟩
 simp only [crashM] at hf
 obtain ⟨i,hi,rfl⟩:=List.mem_mapIdx.1 hf
 have:=h.size _ (List.getElem_mem hi)
 unfold cG crashF at*
 simp only [List.length_append,List.length_take,List.length_nil]
 omega
end Go.Ab
namespace Go.Ab
set_option linter.unusedVariables false
set_option linter.unusedSimpArgs false
def delF (fs:List File) (name:Str):List File:=fs.eraseIdx (idxI fs name).toNat
theorem del_split {fs:List File} {name:Str} (h:has fs name=true): ∃l r,fs=l++aj fs name::r∧delF fs name=l++r∧(idxI fs name).toNat=l.length:=by
 obtain ⟨g1,g2,g3,g4⟩:=cJ h
 refine ⟨fs.take (idxI fs name).toNat,fs.drop ((idxI fs name).toNat+1),?_,?_,?_⟩
 ·have e:fs[(idxI fs name).toNat]=aj fs name:=by rw [List.getElem?_eq_getElem g2] at g3;exact Option.some.inj g3
  rw [←e,←List.drop_eq_getElem_cons g2,List.take_append_drop]
 ·unfold delF;rw [List.eraseIdx_eq_take_drop_succ]
 ·rw [List.length_take];omega
theorem del_has {fs:List File} {name n:Str} (h:has fs name=true) (hn:n≠name):has (delF fs name) n=has fs n:=by
 obtain ⟨l,r,e1,e2,_⟩:=del_split h
 have hf:=(cJ h).2.2.2
 have:isF n (aj fs name)=false:=by unfold isF;rw [hf];simpa using fun x=>hn x.symm
 rw [e2]
 conv=>rhs;rw [e1]
 unfold has
 rw [List.any_append,List.any_append,List.any_cons,this]
 simp
theorem del_at {fs:List File} {name n:Str} (h:has fs name=true) (hn:n≠name):aj (delF fs name) n=aj fs n:=by
 obtain ⟨l,r,e1,e2,_⟩:=del_split h
 have hf:=(cJ h).2.2.2
 have:isF n (aj fs name)=false:=by unfold isF;rw [hf];simpa using fun x=>hn x.symm
 rw [e2]
 have key:(l++r).find? (isF n)=(l++aj fs name::r).find? (isF n):=by
  rw [List.find?_append,List.find?_append,List.find?_cons,this]
 unfold aj at key⊢
 rw [key]
 have e3:List.find? (isF n) (l++(List.find? (isF name) fs).getD noFile::r)=List.find? (isF n) fs:=by
  have:=e1
  unfold aj at this
  rw [←this]
 rw [e3]
theorem del_len {fs:List File} {name:Str} (h:has fs name=true):(delF fs name).length+1=fs.length:=by
 have g:=(cJ h).2.1
 unfold delF
 rw [List.length_eraseIdx_of_lt g];omega
theorem del_mem {fs:List File} {name:Str} {f:File} (h:f∈delF fs name):f∈fs:=List.mem_of_mem_eraseIdx h
def lessM (d:Disk) (name:Str):Disk:= {d with Files:=delF d.Files name,Room:=IntKind.i64.wrap (d.Room+cG (aj d.Files name))}
theorem without_eq {d:Disk} (h:DOk d) {name:Str} (hh:has d.Files name=true):disk_without d (idxI d.Files name)=some (lessM d name):=by
 obtain ⟨g1,g2,g3,g4⟩:=cJ hh
 have hl:=h.lenS
 have hi:((idxI d.Files name).toNat:Int)=idxI d.Files name:=Int.toNat_of_nonneg g1
 unfold disk_without lessM delF
 rw [idxI_ix hh]
 simp only [Option.bind_some]
 rw [size_eq (fsize_at h name)]
 simp only [Option.bind_some]
 have e:IntKind.i64.wrap (idxI d.Files name+1)=idxI d.Files name+1:=w64_in (by omega) (by omega)
 rw [e,ah (by omega),ah (by omega),List.eraseIdx_eq_take_drop_succ]
 have e2:(idxI d.Files name+1).toNat=(idxI d.Files name).toNat+1:=by omega
 rw [e2]
theorem less_ok {d:Disk} (h:DOk d) {name:Str} (hh:has d.Files name=true):DOk (lessM d name):=by
 refine ⟨?_,fun f hf=>h.size f (del_mem hf),wrap_in _,h.fuse⟩
 have:=del_len hh
 have:=h.lenS
 simp only [lessM]
 omega
def bx (d:Disk):Disk×Bool:=if d.Fuse=0 then ({d with Off:=true},false) else ({d with Fuse:=if 0<d.Fuse then d.Fuse - 1 else d.Fuse},true)
theorem bj (d:Disk):(bx d).1.Files=d.Files:=by unfold bx;split<;>rfl
theorem power_room (d:Disk):(bx d).1.Room=d.Room:=by unfold bx;split<;>rfl
theorem power_ok {d:Disk} (h:DOk d):DOk (bx d).1:=by
 refine ⟨by rw [bj];exact h.lenS,by rw [bj];exact h.size,by rw [power_room];exact h.room,?_⟩
 have:=h.fuse
 unfold bx
 split
 ·exact h.fuse
 ·simp only;split<;>omega
theorem change_eq {d:Disk} (h:DOk d):disk_change d=some (bx d):=by
 have hf:=h.fuse
 unfold disk_change bx
 by_cases h0:d.Fuse=0
 ·simp [h0]
 ·by_cases h1:0<d.Fuse
  ·rw [w64_in (by omega) (by omega)];simp [h0,h1]
  ·simp [h0,h1]
def lostM (d:Disk) (name:Str):Disk:=if has d.Files name then lessM d name else d
def bq (d:Disk) (a b:Str):Disk×Int:=
 if d.Off then (d,6) else if named b=false then (d,1) else if has d.Files a=false then (d,7) else if a=b then (d,0) else
 if (bx d).2=false then ((bx d).1,6) else
 ({lostM (bx d).1 b with Files:=setF (lostM (bx d).1 b).Files a ⟨b,(aj d.Files a).Safe,(aj d.Files a).Wait⟩},0)
def aQ (d:Disk) (name:Str):Disk×Int:=
 if d.Off then (d,6) else if has d.Files name=false then (d,7) else if (bx d).2=false then ((bx d).1,6) else (lessM (bx d).1 name,0)
def armM (d:Disk) (fuse:Int):Disk:= {d with Fuse:=if fuse< -1 then -1 else fuse}
theorem lost_ok {d:Disk} (h:DOk d) (name:Str):DOk (lostM d name):=by
 unfold lostM
 split
 ·rename_i hh;exact less_ok h hh
 ·exact h
theorem lost_has {d:Disk} {name n:Str} (hn:n≠name):has (lostM d name).Files n=has d.Files n:=by
 unfold lostM
 split
 ·rename_i hh;exact del_has hh hn
 ·rfl
theorem lost_at {d:Disk} {name n:Str} (hn:n≠name):aj (lostM d name).Files n=aj d.Files n:=by
 unfold lostM
 split
 ·rename_i hh;exact del_at hh hn
 ·rfl
theorem lost_fuse (d:Disk) (name:Str):(lostM d name).Fuse=d.Fuse∧(lostM d name).Off=d.Off:=by
 unfold lostM
 split<;>exact ⟨rfl,rfl⟩
theorem rename_eq {d:Disk} (h:DOk d) (a b:Str):disk_Rename d a b=some (bq d a b):=by
 unfold disk_Rename bq
 rw [named_eq,at_eq h.len,change_eq h]
 simp only [Option.bind_some]
 by_cases c1:d.Off=true
 ·rw [if_pos c1,if_pos c1]
 ·rw [if_neg c1,if_neg c1]
  cases c2:named b with
  |false=>rfl
  |true=>
   rw [if_neg (show ¬(!true)=true by simp),if_neg (show ¬true=false by simp)]
   cases c3:has d.Files a with
   |false=>rw [if_pos (show decide (idxI d.Files a<0)=true by have:=idxI_neg.2 c3;simpa using this)];rfl
   |true=>
    rw [if_neg (show ¬decide (idxI d.Files a<0)=true by have:=idxI_pos c3;simpa using this),if_neg (show ¬true=false by simp)]
    by_cases c4:a=b
    ·rw [if_pos (show decide (a=b)=true by simpa using c4),if_pos c4]
    ·rw [if_neg (show ¬decide (a=b)=true by simpa using c4),if_neg c4]
     cases c5:(bx d).2 with
     |false=>rfl
     |true=>
      rw [if_neg (show ¬(!true)=true by simp),if_neg (show ¬true=false by simp)]
      have ho:=power_ok h
      have hl:=lost_ok ho b
      rw [at_eq ho.len]
      simp only [Option.bind_some]
      have e:(if decide (idxI (bx d).1.Files b≥0)=true then (disk_without (bx d).1 (idxI (bx d).1.Files b)).bind fun y36=>some (y36.Files,y36.Room,y36.Fuse,y36.Off)
       else some ((bx d).1.Files,(bx d).1.Room,(bx d).1.Fuse,(bx d).1.Off))=some ((lostM (bx d).1 b).Files,(lostM (bx d).1 b).Room,(lostM (bx d).1 b).Fuse,(lostM (bx d).1 b).Off):=by
       unfold lostM
       cases hb:has (bx d).1.Files b with
       |true=>rw [if_pos (show decide (idxI (bx d).1.Files b≥0)=true by have:=(cJ hb).1;simpa using this),without_eq ho hb];rfl
       |false=>rw [if_neg (show ¬decide (idxI (bx d).1.Files b≥0)=true by have:=idxI_neg.2 hb;simpa using this)];rfl
      rw [e]
      simp only [Option.bind_some]
      rw [at_eq (d:= {Files:=(lostM (bx d).1 b).Files,Room:=(lostM (bx d).1 b).Room,Fuse:=(lostM (bx d).1 b).Fuse,Off:=(lostM (bx d).1 b).Off}) hl.len]
      simp only [Option.bind_some]
      have hh:has (lostM (bx d).1 b).Files a=true:=by rw [lost_has c4,bj];exact c3
      have g:=cJ hh
      have hf:aj (lostM (bx d).1 b).Files a=aj d.Files a:=by rw [lost_at c4,bj]
      rw [idxI_ix hh]
      simp only [Option.bind_some]
      rw [set_eq hl.len g.1 g.2.1,hf]
      rfl
theorem delete_eq {d:Disk} (h:DOk d) (name:Str):disk_Delete d name=some (aQ d name):=by
 unfold disk_Delete aQ
 rw [at_eq h.len,change_eq h]
 simp only [Option.bind_some]
 by_cases c1:d.Off=true
 ·rw [if_pos c1,if_pos c1]
 ·rw [if_neg c1,if_neg c1]
  cases c3:has d.Files name with
  |false=>rw [if_pos (show decide (idxI d.Files name<0)=true by have:=idxI_neg.2 c3;simpa using this)];rfl
  |true=>
   rw [if_neg (show ¬decide (idxI d.Files name<0)=true by have:=idxI_pos c3;simpa using this),if_neg (show ¬true=false by simp)]
   cases c5:(bx d).2 with
   |false=>rfl
   |true=>
    rw [if_neg (show ¬(!true)=true by simp),if_neg (show ¬true=false by simp)]
    have ho:=power_ok h
    rw [at_eq ho.len]
    simp only [Option.bind_some]
    rw [without_eq ho (by rw [bj];exact c3)]
    rfl
theorem rename_ok {d:Disk} (h:DOk d) (a b:Str):DOk (bq d a b).1:=by
 unfold bq
 by_cases c1:d.Off=true
 ·rw [if_pos c1];exact h
 rw [if_neg c1]
 by_cases c2:named b=false
 ·rw [if_pos c2];exact h
 rw [if_neg c2]
 by_cases c3:has d.Files a=false
 ·rw [if_pos c3];exact h
 rw [if_neg c3]
 by_cases c4:a=b
 ·rw [if_pos c4];exact h
 rw [if_neg c4]
 by_cases c5:(bx d).2=false
 ·rw [if_pos c5];exact power_ok h
 rw [if_neg c5]
 have hl:=lost_ok (power_ok h) b
 refine ⟨by simpa [setF_len] using hl.lenS,fun f hf=> ?_,hl.room,hl.fuse⟩
 rcases setF_mem hf with hf|rfl
 ·exact hl.size f hf
 ·exact fsize_at h a
theorem delete_ok {d:Disk} (h:DOk d) (name:Str):DOk (aQ d name).1:=by
 unfold aQ
 by_cases c1:d.Off=true
 ·rw [if_pos c1];exact h
 rw [if_neg c1]
 by_cases c3:has d.Files name=false
 ·rw [if_pos c3];exact h
 rw [if_neg c3]
 by_cases c5:(bx d).2=false
 ·rw [if_pos c5];exact power_ok h
 rw [if_neg c5]
 exact less_ok (power_ok h) (by rw [bj];simpa using c3)
theorem arm_ok {d:Disk} (h:DOk d) {fuse:Int} (hf: -9223372036854775808≤fuse∧fuse≤9223372036854775807):DOk (armM d fuse):=by
 refine ⟨h.lenS,h.size,h.room,?_⟩
 simp only [armM]
 split<;>omega
end Go.Ab
namespace Go.Ab
set_option linter.unusedVariables false
set_option linter.unusedSimpArgs false
theorem with_other {fs:List File} {name n:Str} (hn:n≠name):has (withF fs name) n=has fs n∧aj (withF fs name) n=aj fs n:=by
 unfold withF
 split
 ·exact ⟨rfl,rfl⟩
 ·have hf:isF n (⟨name,[],[]⟩:File)=false:=by unfold isF;simpa using fun x=>hn x.symm
  constructor
  ·unfold has;rw [List.any_append];simp [hf]
  ·unfold aj;rw [List.find?_append];simp [List.find?_cons,hf]
theorem set_split {fs:List File} {name:Str} (h:has fs name=true) (f:File): ∃l r,fs=l++aj fs name::r∧setF fs name f=l++f::r:=by
 obtain ⟨l,r,e1,e2,e3⟩:=del_split h
 refine ⟨l,r,e1,?_⟩
 unfold setF
 rw [e3]
 conv=>lhs;rw [e1]
 rw [List.set_append_right _ _ (Nat.le_refl _),Nat.sub_self]
 rfl
theorem setF_apart {fs:List File} {name n:Str} {f:File} (h:has fs name=true) (hn:n≠name) (hf:f.Name≠n):has (setF fs name f) n=has fs n∧aj (setF fs name f) n=aj fs n:=by
 obtain ⟨l,r,e1,e2⟩:=set_split h f
 have h1:isF n (aj fs name)=false:=by unfold isF;rw [(cJ h).2.2.2];simpa using fun x=>hn x.symm
 have h2:isF n f=false:=by unfold isF;simpa using hf
 generalize aj fs name=x at e1 h1
 rw [e2,e1]
 constructor
 ·unfold has;rw [List.any_append,List.any_append,List.any_cons,List.any_cons,h1,h2]
 ·unfold aj;rw [List.find?_append,List.find?_append,List.find?_cons,List.find?_cons,h1,h2]
theorem append_apart {d:Disk} {name s n:Str} (hn:n≠name):has (av d name s).1.Files n=has d.Files n∧aj (av d name s).1.Files n=aj d.Files n:=by
 unfold av
 split
 ·exact ⟨rfl,rfl⟩
 split
 ·exact ⟨rfl,rfl⟩
 split
 ·exact ⟨rfl,rfl⟩
 split
 ·exact ⟨rfl,rfl⟩
 simp only
 have a:=setF_apart (f:=⟨name,(aj d.Files name).Safe,(aj d.Files name).Wait++torn d.Fuse s⟩) (has_with d.Files name) hn (fun x=>hn x.symm)
 have b:=with_other (fs:=d.Files) hn
 rw [a.1,a.2]
 exact b
theorem sync_apart {d:Disk} {name n:Str} (hn:n≠name):has (bn d name).1.Files n=has d.Files n∧aj (bn d name).1.Files n=aj d.Files n:=by
 unfold bn
 split
 ·exact ⟨rfl,rfl⟩
 split
 ·exact ⟨rfl,rfl⟩
 ·rename_i h1 h2
  have hh:has d.Files name=true:=by simpa using h2
  simp only
  exact setF_apart hh hn (by simp only;rw [(cJ hh).2.2.2];exact fun x=>hn x.symm)
theorem rename_apart {d:Disk} {a b n:Str} (ha:n≠a) (hb:n≠b):has (bq d a b).1.Files n=has d.Files n∧aj (bq d a b).1.Files n=aj d.Files n:=by
 unfold bq
 split
 ·exact ⟨rfl,rfl⟩
 split
 ·exact ⟨rfl,rfl⟩
 split
 ·exact ⟨rfl,rfl⟩
 rename_i c1 c2 c3
 split
 ·exact ⟨rfl,rfl⟩
 rename_i c4
 split
 ·rw [bj];exact ⟨rfl,rfl⟩
 simp only
 have hh:has (lostM (bx d).1 b).Files a=true:=by rw [lost_has c4,bj];simpa using c3
 have e:=setF_apart (f:=⟨b,(aj d.Files a).Safe,(aj d.Files a).Wait⟩) hh ha (fun x=>hb x.symm)
 rw [e.1,e.2,lost_has hb,lost_at hb,bj]
 exact ⟨rfl,rfl⟩
theorem delete_apart {d:Disk} {name n:Str} (hn:n≠name):has (aQ d name).1.Files n=has d.Files n∧aj (aQ d name).1.Files n=aj d.Files n:=by
 unfold aQ
 split
 ·exact ⟨rfl,rfl⟩
 split
 ·exact ⟨rfl,rfl⟩
 rename_i c1 c3
 split
 ·rw [bj];exact ⟨rfl,rfl⟩
 simp only [lessM,bj]
 have hh:has d.Files name=true:=by simpa using c3
 exact ⟨del_has hh hn,del_at hh hn⟩
end Go.Ab
namespace Go.Ab
set_option linter.unusedVariables false
set_option linter.unusedSimpArgs false
def Uniq (fs:List File):Prop:=fs.Pairwise (fun x y=>x.Name≠y.Name)
theorem has_false {l:List File} {n:Str}:has l n=false↔ ∀f∈l,f.Name≠n:=by
 unfold has
 rw [List.any_eq_false]
 simp [isF]
theorem rename_fails {d:Disk} (a b:Str) (hno:(bq d a b).2≠0):({Files:=(bq d a b).1.Files,Room:=(bq d a b).1.Room,Fuse:=d.Fuse,Off:=d.Off}:Disk)=d:=by
 unfold bq at hno⊢
 by_cases c1:d.Off=true
 ·rw [if_pos c1]
 rw [if_neg c1] at hno⊢
 by_cases c2:named b=false
 ·rw [if_pos c2]
 rw [if_neg c2] at hno⊢
 by_cases c3:has d.Files a=false
 ·rw [if_pos c3]
 rw [if_neg c3] at hno⊢
 by_cases c4:a=b
 ·rw [if_pos c4]
 rw [if_neg c4] at hno⊢
 by_cases c5:(bx d).2=false
 ·rw [if_pos c5];simp only [bj,power_room]
 rw [if_neg c5] at hno
 exact absurd rfl hno
end Go.Ab
namespace Go.Ab
set_option linter.unusedVariables false
set_option linter.unusedSimpArgs false
theorem append_ok2 {d:Disk} (h:DOk d) (name s:Str) (hs:s.length≤1099511627776):DOk (av d name s).1:=by
 unfold av
 split
 ·exact h
 split
 ·exact h
 split
 ·exact h
 rename_i c1 c2 c3
 split
 ·exact h
 rename_i c4
 have t1:=torn_le d.Fuse s
 have hroom: ¬d.Room<s.length:=fun x=>c3 (.inr x)
 have hr:=h.room
 have hf:=h.fuse
 have hll:=h.lenS
 have hwl:(withF d.Files name).length≤1073741824:=by
  unfold withF
  cases hh:has d.Files name with
  |true=>simpa using hll
  |false=>
   have: ¬64≤d.Files.length:=fun x=>c3 (.inl ⟨hh,x⟩)
   simp;omega
 refine ⟨by simp only [setF_len];exact hwl,fun f hm=> ?_,⟨by simp only;omega,by simp only;omega⟩,?_⟩
 ·rcases setF_mem hm with hm|rfl
  ·unfold withF at hm
   split at hm
   ·exact h.size f hm
   ·rcases List.mem_append.1 hm with hm|hm
    ·exact h.size f hm
    ·simp at hm;subst hm;simp [cG]
  ·have:=fsize_at h name
   unfold cG at*
   simp only [List.length_append]
   omega
 ·simp only
  split<;>omega
def cnt (fs:List File) (n:Str):Nat:=(fs.map (·.Name)).count n
theorem has_cnt {fs:List File} {n:Str}:has fs n=false↔cnt fs n=0:=by
 unfold cnt
 rw [List.count_eq_zero,has_false]
 simp
theorem cnt_cons (f:File) (r:List File) (n:Str):cnt (f::r) n=(if f.Name=n then 1 else 0)+cnt r n:=by
 unfold cnt
 rw [List.map_cons,List.count_cons]
 by_cases h:f.Name=n<;>simp [h,Nat.add_comm]
theorem cnt_append (l r:List File) (n:Str):cnt (l++r) n=cnt l n+cnt r n:=by
 unfold cnt;rw [List.map_append,List.count_append]
theorem cnt_names {fs gs:List File} (h:fs.map (·.Name)=gs.map (·.Name)) (n:Str):cnt fs n=cnt gs n:=by unfold cnt;rw [h]
theorem del_cnt {fs:List File} {name:Str} (h:has fs name=true) (n:Str):cnt (delF fs name) n+(if name=n then 1 else 0)=cnt fs n:=by
 obtain ⟨l,r,e1,e2,_⟩:=del_split h
 have hn:=(cJ h).2.2.2
 rw [e2]
 conv=>rhs;rw [e1]
 rw [cnt_append,cnt_append,cnt_cons,hn];omega
theorem set_cnt {fs:List File} {name:Str} (h:has fs name=true) (f:File) (n:Str):cnt (setF fs name f) n+(if name=n then 1 else 0)=cnt fs n+(if f.Name=n then 1 else 0):=by
 obtain ⟨l,r,e1,e2⟩:=set_split h f
 have hn:=(cJ h).2.2.2
 rw [e2]
 conv=>rhs;rw [e1]
 rw [cnt_append,cnt_append,cnt_cons,cnt_cons,hn];omega
theorem with_cnt (fs:List File) (name n:Str):cnt (withF fs name) n=if has fs name=false∧name=n then 1 else cnt fs n:=by
 unfold withF
 cases hh:has fs name with
 |true=>simp
 |false=>
  simp only [Bool.false_eq_true,if_false,true_and]
  rw [cnt_append,cnt_cons]
  by_cases hn:name=n
  ·subst hn
   rw [has_cnt.1 hh];simp [cnt]
  ·simp [hn,cnt]
theorem append_cnt (d:Disk) (name s n:Str):cnt (av d name s).1.Files n≤max (cnt d.Files n) 1∧(n≠name→cnt (av d name s).1.Files n=cnt d.Files n):=by
 unfold av
 split
 ·exact ⟨Nat.le_max_left _ _,fun _=>rfl⟩
 split
 ·exact ⟨Nat.le_max_left _ _,fun _=>rfl⟩
 split
 ·exact ⟨Nat.le_max_left _ _,fun _=>rfl⟩
 split
 ·exact ⟨Nat.le_max_left _ _,fun _=>rfl⟩
 simp only
 have:=set_cnt (has_with d.Files name) ⟨name,(aj d.Files name).Safe,(aj d.Files name).Wait++torn d.Fuse s⟩ n
 simp only [Nat.add_right_cancel_iff] at this
 rw [this,with_cnt]
 constructor
 ·split<;>omega
 ·intro hn
  rw [if_neg (fun x=>hn x.2.symm)]
theorem sync_names (d:Disk) (name:Str):(bn d name).1.Files.map (·.Name)=d.Files.map (·.Name):=by
 unfold bn
 split
 ·rfl
 split
 ·rfl
 ·rename_i h1 h2
  have hh:has d.Files name=true:=by simpa using h2
  exact setF_names hh (cJ hh).2.2.2
theorem sync_cnt (d:Disk) (name n:Str):cnt (bn d name).1.Files n=cnt d.Files n:=cnt_names (sync_names d name) n
theorem crash_cnt (d:Disk) (keeps:List Int) (n:Str):cnt (crashM d keeps).Files n=cnt d.Files n:=by
 refine cnt_names ?_ n
 unfold crashM
 simp only
 apply List.ext_getElem?
 intro i
 rw [List.getElem?_map,List.getElem?_mapIdx,List.getElem?_map]
 cases d.Files[i]? <;>rfl
theorem delete_cnt (d:Disk) (name n:Str):cnt (aQ d name).1.Files n≤cnt d.Files n∧((aQ d name).2=0→n=name→cnt (aQ d name).1.Files n+1=cnt d.Files n):=by
 unfold aQ
 split
 ·exact ⟨Nat.le_refl _,fun h=>by simp at h⟩
 split
 ·exact ⟨Nat.le_refl _,fun h=>by simp at h⟩
 rename_i c1 c2
 split
 ·rw [bj];exact ⟨Nat.le_refl _,fun h=>by simp at h⟩
 simp only [lessM,bj]
 have:=del_cnt (fs:=d.Files) (name:=name) (by simpa using c2) n
 refine ⟨by omega,fun _ hn=> ?_⟩
 subst hn
 simpa using this
theorem lost_cnt (d:Disk) (name n:Str):cnt (lostM d name).Files n=cnt d.Files n - (if name=n then 1 else 0):=by
 unfold lostM
 split
 ·rename_i h
  have:=del_cnt h n
  simp only [lessM];omega
 ·rename_i h
  split
  ·rename_i hn
   subst hn
   have:=has_cnt.1 (show has d.Files name=false by simpa using h)
   omega
  ·rfl
theorem rename_cnt (d:Disk) (a b n:Str) (hb:cnt d.Files b≤1) (hn:cnt d.Files n≤1):cnt (bq d a b).1.Files n≤1:=by
 unfold bq
 split
 ·exact hn
 split
 ·exact hn
 split
 ·exact hn
 rename_i c1 c2 c3
 split
 ·exact hn
 rename_i c4
 split
 ·rw [bj];exact hn
 simp only
 have hh:has (lostM (bx d).1 b).Files a=true:=by rw [lost_has c4,bj];simpa using c3
 have e:=set_cnt hh ⟨b,(aj d.Files a).Safe,(aj d.Files a).Wait⟩ n
 rw [lost_cnt,bj] at e
 simp only at e
 by_cases hbn:b=n
 ·subst hbn
  rw [if_pos rfl,if_neg c4] at e
  omega
 ·rw [if_neg hbn] at e
  omega
theorem cnt_le {l:List File} {fs:List File} (h: ∃r,fs=l++r) (n:Str):cnt l n≤cnt fs n:=by
 obtain ⟨r,rfl⟩:=h
 rw [cnt_append];omega
theorem fileAt_split {l r:List File} {f:File} {n:Str} (hl:has l n=false) (hf:f.Name=n):aj (l++f::r) n=f∧has (l++f::r) n=true:=by
 have i2:isF n f=true:=by unfold isF;simpa using hf
 constructor
 ·unfold aj
  unfold has at hl
  rw [List.any_eq_false] at hl
  rw [List.find?_append,List.find?_eq_none.2 (fun x hx=>hl x hx),List.find?_cons,i2]
  rfl
 ·unfold has;rw [List.any_append,List.any_cons,i2];simp
theorem rename_good {d:Disk} {a b:Str} (hab:a≠b) (hb:cnt d.Files b≤1) (hok:(bq d a b).2=0):
 has (bq d a b).1.Files b=true∧aj (bq d a b).1.Files b=⟨b,(aj d.Files a).Safe,(aj d.Files a).Wait⟩:=by
 unfold bq at hok⊢
 by_cases c1:d.Off=true
 ·rw [if_pos c1] at hok;cases hok
 rw [if_neg c1] at hok⊢
 by_cases c2:named b=false
 ·rw [if_pos c2] at hok;cases hok
 rw [if_neg c2] at hok⊢
 by_cases c3:has d.Files a=false
 ·rw [if_pos c3] at hok;cases hok
 rw [if_neg c3,if_neg hab] at hok⊢
 by_cases c5:(bx d).2=false
 ·rw [if_pos c5] at hok;cases hok
 rw [if_neg c5]
 simp only
 have hh:has (lostM (bx d).1 b).Files a=true:=by rw [lost_has hab,bj];simpa using c3
 have h0:cnt (lostM (bx d).1 b).Files b=0:=by rw [lost_cnt,bj,if_pos rfl];omega
 obtain ⟨l,r,e1,e2⟩:=set_split hh ⟨b,(aj d.Files a).Safe,(aj d.Files a).Wait⟩
 have hl:has l b=false:=has_cnt.2 (by have:=cnt_le ⟨_,e1⟩ b;omega)
 rw [e2]
 exact ⟨(fileAt_split hl rfl).2,(fileAt_split hl rfl).1⟩
theorem rename_same {d:Disk} {a b:Str} (hno:(bq d a b).2≠0):(bq d a b).1.Files=d.Files:=by
 have:=rename_fails a b hno
 have h2:=congrArg Disk.Files this
 exact h2
theorem torn_full {fuse:Int} {s:Str} (h: ¬(torn fuse s).length<s.length):torn fuse s=s:=by
 unfold torn at h⊢
 split at h
 ·rename_i c;rw [List.length_take] at h;omega
 ·rename_i c;rw [if_neg c]
theorem append_good {d:Disk} {name s:Str} (hok:(av d name s).2=0):has (av d name s).1.Files name=true∧aj (av d name s).1.Files name=⟨name,(aj d.Files name).Safe,(aj d.Files name).Wait++s⟩∧(av d name s).1.Off=false:=by
 unfold av at hok⊢
 by_cases c1:d.Off=true
 ·rw [if_pos c1] at hok;cases hok
 rw [if_neg c1] at hok⊢
 by_cases c2:named name=false
 ·rw [if_pos c2] at hok;cases hok
 rw [if_neg c2] at hok⊢
 by_cases c3:(has d.Files name=false∧64≤d.Files.length)∨d.Room<s.length
 ·rw [if_pos c3] at hok;cases hok
 rw [if_neg c3] at hok⊢
 by_cases c4:65536<(cG (aj d.Files name):Int)+s.length
 ·rw [if_pos c4] at hok;cases hok
 rw [if_neg c4] at hok⊢
 simp only at hok⊢
 by_cases c5:(torn d.Fuse s).length<s.length
 ·rw [if_pos c5] at hok;cases hok
 rw [torn_full c5]
 refine ⟨?_,setF_at (has_with d.Files name) rfl,by simp⟩
 rw [setF_has (has_with d.Files name) rfl];exact has_with _ _
theorem sync_good {d:Disk} {name:Str} (hok:(bn d name).2=0):has (bn d name).1.Files name=true∧aj (bn d name).1.Files name=⟨name,(aj d.Files name).Safe++(aj d.Files name).Wait,[]⟩:=by
 unfold bn at hok⊢
 by_cases c1:d.Off=true
 ·rw [if_pos c1] at hok;cases hok
 rw [if_neg c1] at hok⊢
 by_cases c2:has d.Files name=false
 ·rw [if_pos c2] at hok;cases hok
 rw [if_neg c2]
 have hh:has d.Files name=true:=by simpa using c2
 have hn:=(cJ hh).2.2.2
 simp only
 rw [hn]
 exact ⟨by rw [setF_has hh rfl];exact hh,setF_at hh rfl⟩
def aE (d:Disk) (fr:Str):Disk×Int:=if has d.Files fr=true then aQ d fr else (d,0)
def lay2 (d:Disk) (fr s:Str):Disk×Int:=if (aE d fr).2≠0 then aE d fr else av (aE d fr).1 fr s
def lay3 (d:Disk) (fr s:Str):Disk×Int:=if (lay2 d fr s).2≠0 then lay2 d fr s else bn (lay2 d fr s).1 fr
def frN (name:Str):Str:=[110,46]++name
def layM (d:Disk) (name s:Str):Disk×Int:=if (lay3 d (frN name) s).2≠0 then lay3 d (frN name) s else bq (lay3 d (frN name) s).1 (frN name) name
theorem frN_ne (name:Str):frN name≠name:=fun h=>by
 have:=congrArg List.length h
 unfold frN at this
 simp at this
 omega
theorem clear_ok {d:Disk} (h:DOk d) (fr:Str):DOk (aE d fr).1:=by
 unfold aE;split
 ·exact delete_ok h fr
 ·exact h
theorem clear_apart {d:Disk} {fr n:Str} (hn:n≠fr):has (aE d fr).1.Files n=has d.Files n∧aj (aE d fr).1.Files n=aj d.Files n:=by
 unfold aE;split
 ·exact delete_apart hn
 ·exact ⟨rfl,rfl⟩
theorem lay2_apart {d:Disk} {fr s n:Str} (hn:n≠fr):has (lay2 d fr s).1.Files n=has d.Files n∧aj (lay2 d fr s).1.Files n=aj d.Files n:=by
 have:=clear_apart (d:=d) hn
 unfold lay2;split
 ·exact this
 ·rw [(append_apart hn).1,(append_apart hn).2];exact this
theorem lay3_apart {d:Disk} {fr s n:Str} (hn:n≠fr):has (lay3 d fr s).1.Files n=has d.Files n∧aj (lay3 d fr s).1.Files n=aj d.Files n:=by
 have:=lay2_apart (d:=d) (s:=s) hn
 unfold lay3;split
 ·exact this
 ·rw [(sync_apart hn).1,(sync_apart hn).2];exact this
theorem lay_apart {d:Disk} {name s n:Str} (hn:n≠name) (hf:n≠frN name):has (layM d name s).1.Files n=has d.Files n∧aj (layM d name s).1.Files n=aj d.Files n:=by
 have:=lay3_apart (d:=d) (s:=s) hf
 unfold layM;split
 ·exact this
 ·rw [(rename_apart hf hn).1,(rename_apart hf hn).2];exact this
theorem lay_bad {d:Disk} {name s n:Str} (hf:n≠frN name) (hno:(layM d name s).2≠0):has (layM d name s).1.Files n=has d.Files n∧aj (layM d name s).1.Files n=aj d.Files n:=by
 have:=lay3_apart (d:=d) (s:=s) hf
 unfold layM at hno⊢;split at hno
 ·rename_i c;rw [if_pos c];exact this
 ·rename_i c;rw [if_neg c,rename_same hno];exact this
theorem clear_cnt {d:Disk} {fr:Str} (h1:cnt d.Files fr≤1) (n:Str):cnt (aE d fr).1.Files n≤cnt d.Files n∧((aE d fr).2=0→cnt (aE d fr).1.Files fr=0):=by
 unfold aE
 cases hh:has d.Files fr with
 |true=>
  rw [if_pos rfl]
  refine ⟨(delete_cnt d fr n).1,fun ho=> ?_⟩
  have:=(delete_cnt d fr fr).2 ho rfl
  omega
 |false=>
  rw [if_neg (by simp)]
  exact ⟨Nat.le_refl _,fun _=>has_cnt.1 hh⟩
theorem lay2_cnt {d:Disk} {fr:Str} (s:Str) (h1:cnt d.Files fr≤1) {n:Str} (hn:cnt d.Files n≤1):cnt (lay2 d fr s).1.Files n≤1:=by
 have h:=(clear_cnt h1 n).1
 unfold lay2;split
 ·omega
 ·have:=(append_cnt (aE d fr).1 fr s n).1;omega
theorem lay3_cnt {d:Disk} {fr:Str} (s:Str) (h1:cnt d.Files fr≤1) {n:Str} (hn:cnt d.Files n≤1):cnt (lay3 d fr s).1.Files n≤1:=by
 have h:=lay2_cnt s h1 hn
 unfold lay3;split
 ·exact h
 ·rw [sync_cnt];exact h
theorem lay_cnt {d:Disk} {name:Str} (s:Str) (h1:cnt d.Files (frN name)≤1) (h2:cnt d.Files name≤1) {n:Str} (hn:cnt d.Files n≤1):cnt (layM d name s).1.Files n≤1:=by
 have h:=lay3_cnt s h1 hn
 unfold layM;split
 ·exact h
 ·exact rename_cnt _ _ _ _ (lay3_cnt s h1 h2) h
theorem lay_good {d:Disk} {name s:Str} (h1:cnt d.Files (frN name)≤1) (h2:cnt d.Files name≤1) (hok:(layM d name s).2=0):
 has (layM d name s).1.Files name=true∧aj (layM d name s).1.Files name=⟨name,s,[]⟩:=by
 have hc3:=lay3_cnt (fr:=frN name) s h1 h2
 unfold layM at hok⊢
 by_cases c3:(lay3 d (frN name) s).2≠0
 ·rw [if_pos c3] at hok;exact absurd hok c3
 rw [if_neg c3] at hok⊢
 have hr:=rename_good (frN_ne name) hc3 hok
 refine ⟨hr.1,hr.2.trans ?_⟩
 have g3:(lay3 d (frN name) s).2=0:=by simpa using c3
 unfold lay3 at g3⊢
 by_cases c2:(lay2 d (frN name) s).2≠0
 ·rw [if_pos c2] at g3;exact absurd g3 c2
 rw [if_neg c2] at g3⊢
 have hs:=sync_good g3
 rw [hs.2]
 have g2:(lay2 d (frN name) s).2=0:=by simpa using c2
 unfold lay2 at g2⊢
 by_cases c1:(aE d (frN name)).2≠0
 ·rw [if_pos c1] at g2;exact absurd g2 c1
 rw [if_neg c1] at g2⊢
 have ha:=append_good g2
 rw [ha.2.1]
 have h0:=(clear_cnt h1 (frN name)).2 (by simpa using c1)
 rw [dh (has_cnt.2 h0)]
 rfl
theorem lay_eq {d:Disk} (h:DOk d) (name s:Str) (hn:name.length≤1099511627776) (hs:s.length≤1099511627776):run_Lay d name s=some (layM d name s):=by
 unfold run_Lay
 rw [ah (by simp;omega),find_eq h.len]
 simp only [Option.bind_some]
 have e1:(if has d.Files ([110,46]++name)=true then (disk_Delete d ([110,46]++name)).bind fun y23=>
  if (!(decide (y23.2=0)))=true then some ((.inr (y23.2,y23.1.Files,y23.1.Room,y23.1.Fuse,y23.1.Off)):((List File)×Int×Int×Bool)⊕(Int×(List File)×Int×Int×Bool))
  else some (.inl (y23.1.Files,y23.1.Room,y23.1.Fuse,y23.1.Off))
  else some (.inl (d.Files,d.Room,d.Fuse,d.Off)))=
  some (if (aE d (frN name)).2≠0 then .inr ((aE d (frN name)).2,(aE d (frN name)).1.Files,(aE d (frN name)).1.Room,(aE d (frN name)).1.Fuse,(aE d (frN name)).1.Off) else .inl ((aE d (frN name)).1.Files,(aE d (frN name)).1.Room,(aE d (frN name)).1.Fuse,(aE d (frN name)).1.Off)):=by
  unfold aE
  change (if has d.Files (frN name)=true then _ else _)=_
  cases hh:has d.Files (frN name) with
  |true=>
   rw [if_pos rfl,if_pos rfl]
   change ((disk_Delete d (frN name)).bind _)=_
   rw [delete_eq h]
   simp only [Option.bind_some]
   by_cases hz:(aQ d (frN name)).2=0
   ·rw [if_neg (by simp [hz]),if_neg (by simp [hz])]
   ·rw [if_pos (by simp [hz]),if_pos hz]
  |false=>rfl
 rw [e1]
 simp only [Option.bind_some]
 unfold layM lay3 lay2
 by_cases hz:(aE d (frN name)).2=0
 ·rw [if_neg (show ¬(aE d (frN name)).2≠0 by simpa using hz),if_neg (show ¬(aE d (frN name)).2≠0 by simpa using hz)]
  simp only
  change ((disk_Append (aE d (frN name)).1 (frN name) s).bind _)=_
  have k1:=clear_ok h (frN name)
  rw [append_eq k1 _ s hs]
  simp only [Option.bind_some]
  by_cases hz2:(av (aE d (frN name)).1 (frN name) s).2=0
  ·rw [if_neg (show ¬(!decide ((av (aE d (frN name)).1 (frN name) s).2=0))=true by simp [hz2]),if_neg (show ¬(av (aE d (frN name)).1 (frN name) s).2≠0 by simpa using hz2)]
   change ((disk_Sync (av (aE d (frN name)).1 (frN name) s).1 (frN name)).bind _)=_
   have k2:=append_ok2 k1 (frN name) s hs
   rw [sync_eq k2]
   simp only [Option.bind_some]
   by_cases hz3:(bn (av (aE d (frN name)).1 (frN name) s).1 (frN name)).2=0
   ·rw [if_neg (show ¬(!decide ((bn (av (aE d (frN name)).1 (frN name) s).1 (frN name)).2=0))=true by simp [hz3]),if_neg (show ¬(bn (av (aE d (frN name)).1 (frN name) s).1 (frN name)).2≠0 by simpa using hz3)]
    change ((disk_Rename (bn (av (aE d (frN name)).1 (frN name) s).1 (frN name)).1 (frN name) name).bind _)=_
    rw [rename_eq (sync_ok k2 _)]
    rfl
   ·rw [if_pos (show (!decide ((bn (av (aE d (frN name)).1 (frN name) s).1 (frN name)).2=0))=true by simp [hz3]),if_pos (show (bn (av (aE d (frN name)).1 (frN name) s).1 (frN name)).2≠0 from hz3)]
  ·rw [if_pos (show (!decide ((av (aE d (frN name)).1 (frN name) s).2=0))=true by simp [hz2]),if_pos (show (av (aE d (frN name)).1 (frN name) s).2≠0 from hz2),if_pos (show (av (aE d (frN name)).1 (frN name) s).2≠0 from hz2)]
 ·rw [if_pos (show (aE d (frN name)).2≠0 from hz),if_pos (show (aE d (frN name)).2≠0 from hz),if_pos (show (aE d (frN name)).2≠0 from hz),if_pos (show (aE d (frN name)).2≠0 from hz)]
end Go.Ab
