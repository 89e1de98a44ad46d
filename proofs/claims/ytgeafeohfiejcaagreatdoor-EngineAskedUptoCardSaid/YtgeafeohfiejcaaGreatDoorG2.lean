/- Regions whose order is drawn: the head's operations in whatever order, then the tail's in a row. and what follows it, up to: Slices that have no room behind: what is appended to them lies in a row of its own. -/
import Derived.Test.YtgeafeohfiejcaaGreatDoorG1
import Derived.Scope
import Derived.OrdersHeld
import Derived.StillTail
import Derived.Deep.LoopGhost
import Derived.IntWalk
import Derived.LoopN
import Derived.RangeFuncBox
import Derived.JoinedCond
import Derived.Carry
import Derived.OpenShut
import Derived.ProofKit
import Derived.Test.YtgeafeohfiejcaaGreatDoorProg
import Derived.KernelRfl
import Derived.WalkKit
import Derived.RowKitTokens
import Derived.Lib.Strings
import Derived.Lib.Slices
import Derived.Lib.Walk
import Derived.Lib.Builder
import Derived.Lib.AppendStr
import Derived.Lib.UnsafeStr
import Derived.Laws.Externs
import Derived.Lib.SliceRun
import Derived.Laws.IdiomCopy
import Derived.Laws.CopyRow
import Derived.Lib.AppendZerosOnto
import Derived.Lib.Overlaps
import Derived.Deep.RegionLaw
import Derived.Laws.AppendOwn
namespace Go.Ab
set_option linter.unusedVariables false
section
variable {P:Program} {ops:Array Oper} {Q:Exit→Act→World→Prop} {S:World→Prop} {n:Nat} {L:Act→World→Prop}
def Mix (P:Program) (ops:Array Oper) (Q:Exit→Act→World→Prop) (S:World→Prop) (n:Nat) (L:Act→World→Prop):Nat→Array Bool→Act→World→Prop
 |0,had,a,w=>Region.seqB .any ops (ops.size - n) n had=true∧L a w
 |f+1,had,a,w=>Region.ready .any ops had≠[]∧ ∀i∈Region.ready .any ops had,i<n∧wpOp P ops Q i (fun a' w'=>S w'∧Mix P ops Q S n L f (had.setIfInBounds i true) a' w') a w
theorem mix_any (hL: ∀had a w,Region.seqB .any ops (ops.size - n) n had=true→L a w→wpAny P .any ops Q (ops.size - n) had a w):
 ∀(f:Nat) (had:Array Bool) (a:Act) (w:World),Mix P ops Q S n L f had a w→wpAny P .any ops Q (f+(ops.size - n)) had a w:=by
 intro f
 induction f with
 |zero=>intro had a w h;rw [Nat.zero_add];exact hL _ _ _ h.1 h.2
 |succ f ih=>
  intro had a w h
  have e:f+1+(ops.size - n)=(f+(ops.size - n))+1:=by omega
  rw [e]
  exact ⟨fun h0=>absurd h0 h.1,fun i hi=>wpOp_mono (fun a' w' h'=>ih _ a' w' h'.2) (h.2 i hi).2⟩
def HeadOnly (ops:Array Oper) (n:Nat):Prop:= ∀(had:Array Bool),HeadInv .any ops n had→ ∀i,i<n→had.getD i true=false→ ∀j∈Region.ready .any ops had,j<n
theorem headOnly_of {n:Nat} (h:(decide (n=ops.size)||(decide (n<ops.size)&&Region.sinkB .any ops n&&Region.chainB .any ops n))=true):HeadOnly ops n:=by
 intro had inv i hi hun j hj
 simp only [Bool.or_eq_true,Bool.and_eq_true,decide_eq_true_eq] at h
 rcases h with rfl|⟨⟨hn,hs⟩,hc⟩
 ·obtain ⟨_,oj,hoj,_⟩:=mem_ready.1 hj
  exact (Array.getElem?_eq_some_iff.1 hoj).1
 ·exact (Nat.lt_or_ge j n).resolve_right fun h=>tail_waits hs hc hn inv _ i rfl hi hun j h hj
theorem mix_take {i:Nat} {oi:Oper} {v:Value} (hi:ops[i]? =some oi) (hsel:Region.noSelect ops=true) (hh:HeadOnly ops n) (hin:i<n)
 (hQ: ∀c a w,Q (.panic c) (a.put oi.dst v) w→Q (.panic c) a w):
 ∀(f:Nat) (had:Array Bool) (a:Act) (w:World),HeadInv .any ops n had→
  (∀j oj,ops[j]? =some oj→j≠i→had.getD j true=false→(∀e∈oj.after,Region.binds .any e=true→e.on≠i)→oi.apart ops oj=true)→
  i∈Region.ready .any ops had→YieldsIf P ops S oi v a→S w→Mix P ops Q S n L f (had.setIfInBounds i true) (a.put oi.dst v) w→Mix P ops Q S n L (f+1) had a w:=by
 have sel:=Region.noSelect_spec hsel
 intro f
 induction f with
 |zero=>
  intro had a w inv _ hr hy hS H
  have hun:=(mem_ready.1 hr).1
  refine ⟨fun h=>(by rw [h] at hr;cases hr),fun j hj=> ?_⟩
  have hjn:=hh had inv i hin hun j hj
  refine ⟨hjn,?_⟩
  by_cases hji:j=i
  ·subst hji;exact hy.wpOp hi hS ⟨hS,H⟩
  ·have:=seqB_ready H.1 j (ready_mono hj hji)
   omega
 |succ f ih=>
  intro had a w inv hfree hr hy hS H
  have hun:=(mem_ready.1 hr).1
  refine ⟨fun h=>(by rw [h] at hr;cases hr),fun j hj=> ?_⟩
  have hjn:=hh had inv i hin hun j hj
  refine ⟨hjn,?_⟩
  by_cases hji:j=i
  ·subst hji;exact hy.wpOp hi hS ⟨hS,H⟩
  obtain ⟨hjun,oj,hoj,hall⟩:=mem_ready.1 hj
  have hnot: ∀e∈oj.after,Region.binds .any e=true→e.on≠i:=by
   intro e he hb heq
   have k:=hall e he hb
   rw [heq,getD_both hun] at k
   cases k
  have moved:=wpOp_putIf hoj (hfree j oj hoj hji hjun hnot) (fun cs b=>sel i oi cs b hi) (fun cs b=>sel j oj cs b hoj) hQ hy (H.2 j (ready_mono hj hji)).2
  refine wpOp_mono (fun a' w' h3=>⟨h3.2.1,ih (had.setIfInBounds j true) a' w' (inv.set hj hjn) ?_ (ready_mono hr (Ne.symm hji)) h3.1 h3.2.1 ?_⟩) moved
  ·intro k ok hk hki hku hno
   refine hfree k ok hk hki ?_ hno
   by_cases hjk:j=k
   ·subst hjk;exact hjun
   ·rwa [getD_set_ne true hjk] at hku
  ·rw [Array.setIfInBounds_comm _ _ hji]
   exact h3.2.2
def Calm (R:Act→World→Prop):Exit→Act→World→Prop:=fun x a w=>x= .normal∧R a w
theorem Calm.noPanic {R:Act→World→Prop} {d:Option Tmp} {v:Value}: ∀c a w,Calm R (.panic c) (a.put d v) w→Calm R (.panic c) a w:=fun c a w h=>by cases h.1
end
end Go.Ab
namespace Go.Ab
set_option linter.unusedVariables false
set_option linter.unusedSimpArgs false
noncomputable def CondP (b:Bool) (t e:Unit→Prop):Prop:= @Bool.rec (fun _=>Prop) (e ()) (t ()) b
theorem cond_mk {b:Bool} {t e:Prop} (h1:b=true→t) (h2:b=false→e): @Bool.rec (fun _=>Prop) e t b:=by
 cases b
 ·exact h2 rfl
 ·exact h1 rfl
theorem CondP.mk {b:Bool} {t e:Unit→Prop} (h1:b=true→t ()) (h2:b=false→e ()):CondP b t e:=by
 cases b
 ·exact h2 rfl
 ·exact h1 rfl
theorem CondP.pos {b:Bool} {t e:Unit→Prop} (h:b=true) (h1:t ()):CondP b t e:=by subst h;exact h1
theorem CondP.neg {b:Bool} {t e:Unit→Prop} (h:b=false) (h1:e ()):CondP b t e:=by subst h;exact h1
noncomputable def guardS (S:St) (all:List Oper) (g:Option (Nat×Bool)) (yes no:St→Prop):Prop:=
 match g with
 |none=>yes S
 |some (j,want)=>
  (match all[j]? with
  |some oj=>
   (match oj.dst with
   |some d=>
    (match S.regs d with
    | .v (.bool b)=>
      (match want with
      |true=>CondP b (fun _=>yes (S.put (some d) (.v (.bool true)))) (fun _=>no (S.put (some d) (.v (.bool false))))
      |false=>CondP b (fun _=>no (S.put (some d) (.v (.bool true)))) (fun _=>yes (S.put (some d) (.v (.bool false)))))
    | .v (.tuple _)=>no S
    |_=>False)
   |none=>False)
  |none=>False)
noncomputable def runOps (P:Program) (G:Gm) (all:List Oper) (l:List Oper):St→(St→Prop)→Prop:=
 List.rec (motive:=fun _=>St→(St→Prop)→Prop) (fun S K=>K S)
  (fun o _ ih S K=>guardS S all o.guard (fun S=>step2 P G S o fun S=>ih S K) (fun S=>Chk (S.okD o.dst)<|putS S o.dst (.v undef) fun S=>ih S K)) l
theorem runOps_cons {P:Program} {G:Gm} {all:List Oper} {o:Oper} {r:List Oper} {S:St} {K:St→Prop}:runOps P G all (o::r) S K=
 guardS S all o.guard (fun S=>step2 P G S o fun S=>runOps P G all r S K) (fun S=>Chk (S.okD o.dst)<|putS S o.dst (.v undef) fun S=>runOps P G all r S K):=rfl
structure bl (S S':St):Prop where
 out: ∀(C:Ctx) (a:Act) (w:World) (F:Nat→Prop) (e:Env),Sat C S a w F e→ ∃F' e',Sat C S' a w F' e'
theorem bl.refl (S:St):bl S S:=⟨fun C a w F e h=>⟨F,e,h⟩⟩
theorem bl.trans {S1 S2 S3:St} (h:bl S1 S2) (k:bl S2 S3):bl S1 S3:=
 ⟨fun C a w F e hs=>let ⟨F1,e1,h1⟩:=h.out C a w F e hs;k.out C a w F1 e1 h1⟩
inductive Plan where
 |fin
 |take (i:Nat) (p:Plan)
 |alt (i:Nat) (p q:Plan)
 |nil
def memB (W:List Nat) (o:Nat):Bool:=W.any fun k=>Nat.beq k o
def stillB (W:List Nat) (H0:List Ob) (o:Nat):Bool:=
 match H0[o]? with
 |some (.var _ _)=>(match memB W o with|true=>false|false=>true)
 |_=>false
def takeB (first:Bool) (W:List Nat) (H0:List Ob) (S:St) (op:Op):Bool:=
 match op with
 | .load _ A=>(match S.ev A with| .ptr o _=>stillB W H0 o| .eptr _=>first|_=>false)
 | .convert _ _ A=>(match S.ev A with| .v _=>true|_=>false)
 |_=>true
def hideH (W:List Nat):Nat→List Ob→List Ob
 |_,[]=>[]
 |k,.var T cs::r=>(match memB W k with|true=>.var T cs|false=>.gone)::hideH W (k+1) r
 |k,x::r=>x::hideH W (k+1) r
def showH (W:List Nat):Nat→List Ob→List Ob→List Ob
 |_,[],r=>r
 |k,.var T cs::r,y::s=>(match memB W k with|true=>y|false=>.var T cs)::showH W (k+1) r s
 |k,_::r,y::s=>y::showH W (k+1) r s
 |_,_::_,[]=>[]
def hide (W:List Nat) (S:St):St:= {S with base:=S.heap.length,heap:=hideH W 0 S.heap}
def unhide (W:List Nat) (S S':St):St:= {S' with base:=S.base,heap:=showH W 0 S.heap S'.heap}
def unhideF (W:List Nat) (S S':St) (K:St→Prop):Prop:=
 match S' with
 |⟨n,_,regs,H⟩=>force1 n fun n=>force1 S.base fun b=>forceH (showH W 0 S.heap H) fun H=>K ⟨n,b,regs,H⟩
theorem unhideF_eq (W:List Nat) (S S':St) (K:St→Prop):unhideF W S S' K=K (unhide W S S'):=by
 cases S';simp only [unhideF,forceH_eq,force1_eq,unhide]
def hideF (W:List Nat) (S:St) (K:St→Prop):Prop:=
 match S with
 |⟨n,_,regs,H⟩=>force1 n fun n=>forceH (hideH W 0 H) fun H'=>K ⟨n,H'.length,regs,H'⟩
theorem hideH_length (W:List Nat): ∀(H:List Ob) (k:Nat),(hideH W k H).length=H.length
 |[],_=>rfl
 |x::r,k=>by cases x<;>simp [hideH,hideH_length W r (k+1)]
theorem hideF_eq (W:List Nat) (S:St) (K:St→Prop):hideF W S K=K (hide W S):=by
 cases S;simp only [hideF,forceH_eq,force1_eq,hide,hideH_length]
structure Both (p q:Prop):Prop where
 l:p
 r:q
noncomputable def runPlan (P:Program) (G:Gm) (all:List Oper) (W:List Nat) (H0:List Ob) (pl:Plan):Bool→St→(St→Prop)→Prop:=
 Plan.rec (motive:=fun _=>Bool→St→(St→Prop)→Prop)
  (fun _ S K=>K S)
  (fun i _ ih first S K=>match all[i]? with
    |some o=>guardS S all o.guard (fun S=>Chk (S.okD o.dst)<|Chk (takeB first W H0 S o.op)<|valOp G.tys S o.op fun r=>hookR (hookB S o.op) r fun r=>putS S o.dst r fun S=>ih first S K)
      (fun S=>Chk (S.okD o.dst)<|putS S o.dst (.v undef) fun S=>ih first S K)
    |none=>False)
  (fun i _ _ ihp ihq first S K=>Both
    (match all[i]? with
    |some o=>guardS S all o.guard (fun S=>hideF W S fun S1=>step2 P G S1 o fun S2=>unhideF W S S2 fun S=>ihp false S K)
      (fun S=>Chk (S.okD o.dst)<|putS S o.dst (.v undef) fun S=>ihp false S K)
    |none=>False) (ihq first S K))
  (fun _ _ _=>True) pl
theorem runPlan_take {P:Program} {G:Gm} {all:List Oper} {W:List Nat} {H0:List Ob} {i:Nat} {p:Plan} {first:Bool} {S:St} {K:St→Prop}:runPlan P G all W H0 (.take i p) first S K=
 (match all[i]? with
   |some o=>guardS S all o.guard (fun S=>Chk (S.okD o.dst)<|Chk (takeB first W H0 S o.op)<|valOp G.tys S o.op fun r=>hookR (hookB S o.op) r fun r=>putS S o.dst r fun S=>runPlan P G all W H0 p first S K)
     (fun S=>Chk (S.okD o.dst)<|putS S o.dst (.v undef) fun S=>runPlan P G all W H0 p first S K)
   |none=>False):=rfl
theorem runPlan_alt {P:Program} {G:Gm} {all:List Oper} {W:List Nat} {H0:List Ob} {i:Nat} {p q:Plan} {first:Bool} {S:St} {K:St→Prop}:runPlan P G all W H0 (.alt i p q) first S K=
 Both (match all[i]? with
  |some o=>guardS S all o.guard (fun S=>hideF W S fun S1=>step2 P G S1 o fun S2=>unhideF W S S2 fun S=>runPlan P G all W H0 p false S K)
    (fun S=>Chk (S.okD o.dst)<|putS S o.dst (.v undef) fun S=>runPlan P G all W H0 p false S K)
  |none=>False) (runPlan P G all W H0 q first S K):=rfl
def Plan.alts:Plan→List Nat
 | .alt i _ q=>i::q.alts
 |_=>[]
def planB (ops:Array Oper) (n:Nat):Plan→Nat→Array Bool→Bool→Bool
 | .fin,f,had,top=>top&&Nat.beq f 0&&Region.seqB .any ops (ops.size - n) n had
 | .take i p,f,had,top=>top&&(match f with
    |f+1=>Nat.blt i n&&(Region.ready .any ops had).contains i&&Region.free .any ops had i&&planB ops n p f (had.setIfInBounds i true) true
    |0=>false)
 | .alt i p q,f,had,top=>(!top||(Region.ready .any ops had == (Plan.alt i p q).alts))&&(match f with
    |f+1=>Nat.blt i n&&planB ops n p f (had.setIfInBounds i true) true
    |0=>false)&&planB ops n q f had false
 | .nil,_,_,top=> !top
def drawB (ops:Array Oper) (n:Nat) (pl:Plan):Bool:=
 Region.noSelect ops&&(decide (n=ops.size)||(decide (n<ops.size)&&Region.sinkB .any ops n&&Region.chainB .any ops n))&&planB ops n pl n (Array.replicate ops.size false) true
structure cp (P:Program) (G:Gm) (ops:Array Oper) (S:St) (K:St→Prop):Prop where
 out: ∃(n:Nat) (pl:Plan) (W:List Nat) (M:St→Prop),drawB ops n pl=true∧runPlan P G ops.toList W S.heap pl true S M∧ ∀S',M S'→ ∃S'',bl S' S''∧runOps P G ops.toList (ops.toList.drop n) S'' K
theorem cp.one {P:Program} {G:Gm} {ops:Array Oper} {S:St} {K:St→Prop} (n:Nat) (pl:Plan) (W:List Nat) (hB:drawB ops n pl=true) (h:runPlan P G ops.toList W S.heap pl true S fun S'=>runOps P G ops.toList (ops.toList.drop n) S' K):cp P G ops S K:=
 ⟨⟨n,pl,W,_,hB,h,fun S' h=>⟨S',bl.refl S',h⟩⟩⟩
theorem cp.many {P:Program} {G:Gm} {ops:Array Oper} {S:St} {K:St→Prop} (n:Nat) (pl:Plan) (W:List Nat) (S0:St) (hB:drawB ops n pl=true) (h:runPlan P G ops.toList W S.heap pl true S fun S'=>bl S' S0) (hk:runOps P G ops.toList (ops.toList.drop n) S0 K):cp P G ops S K:=
 ⟨⟨n,pl,W,_,hB,h,fun S' h=>⟨S0,h,hk⟩⟩⟩
def refineC (S:St) (c:Operand) (b:Bool):St:=
 match c with
 | .tmp t=>S.put (some t) (.v (.bool b))
 |_=>S
def seqK (k:St→(Exit→St→Prop)→Prop) (Q:Exit→St→Prop):Exit→St→Prop:=fun e S=>match e with| .normal=>k S Q|e=>Q e S
def blockK (id:Nat) (Q:Exit→St→Prop):Exit→St→Prop:=fun e S=>match e with| .exit i=>(match Nat.beq i id with|true=>Q .normal S|false=>Q (.exit i) S)|e=>Q e S
def scopeK (Q:Exit→St→Prop):Exit→St→Prop:=fun e S=>match e with| .goto _=>False|e=>Q e S
noncomputable def run (P:Program) (G:Gm) (c:Code):St→(Exit→St→Prop)→Prop:=
 Code.rec (motive:=fun _=>St→(Exit→St→Prop)→Prop)
  (fun S Q=>Q .normal S)
  (fun _ ops draw S Q=>match draw with|false=>runOps P G ops.toList ops.toList S (Q .normal)|true=>cp P G ops S (Q .normal))
  (fun _ _ x y S Q=>x S (seqK y Q))
  (fun c _ _ x y S Q=>match S.ev c with| .v (.bool b)=>CondP b (fun _=>x (refineC S c true) Q) (fun _=>y (refineC S c false) Q)|_=>False)
  (fun id _ x S Q=>x S (blockK id Q))
  (fun _ _ _ _=>False)
  (fun _ _ _ _ _ _ _ _=>False)
  (fun id S Q=>Q (.exit id) S)
  (fun _ x S Q=>x S (scopeK Q))
  (fun _ S Q=>Q .normal S)
  (fun _ _ _=>False)
  (fun S Q=>Q .ret S)
  (fun _ _ _=>False) c
theorem run_cond {P:Program} {G:Gm} {c:Operand} {x y:Code} {S:St} {Q:Exit→St→Prop}:run P G (.cond c x y) S Q=
 (match S.ev c with| .v (.bool b)=>CondP b (fun _=>run P G x (refineC S c true) Q) (fun _=>run P G y (refineC S c false) Q)|_=>False):=rfl
section
variable {P:Program} {G:Gm} {C:Ctx} {S:St} {a:Act} {w w':World} {F F':Nat→Prop} {e e':Env}
theorem Sat.refine (h:Sat C S a w F e) {d:Nat} {b:Bool} (hd:S.regs d= .v (.bool b)) {c:Bool} (hb:b=c):Sat C (S.put (some d) (.v (.bool c))) a w F e:=by
 subst hb
 refine ⟨h.defers,h.size,h.base,fun t=> ?_,h.mem⟩
 simp only [St.put]
 by_cases ht:t=d
 ·subst ht;rw [ba,←hd];exact h.regs t
 ·rw [cj _ _ _ ht];exact h.regs t
theorem guard_yield {all:List Oper} {j d:Nat} {oj:Oper} {b:Bool} (h:Sat C S a w F e) (hj:all[j]? =some oj) (hd:oj.dst=some d) (hr:S.regs d= .v (.bool b)):yielded all.toArray a.tmps j=some b:=by
 have h1:=h.regs d
 rw [hr] at h1
 have h2:=h1.v_inv
 have h3:a.tmps[d]? =some (.bool b):=by
  rw [Array.getD_eq_getD_getElem?] at h2
  cases hx:a.tmps[d]? with
  |none=>rw [hx] at h2;simp [undef] at h2
  |some x=>rw [hx] at h2;simp at h2;rw [h2]
 unfold yielded
 simp [hj,hd,h3]
theorem guard_none {all:List Oper} {j d:Nat} {oj:Oper} {l:Array Value} (h:Sat C S a w F e) (hj:all[j]? =some oj) (hd:oj.dst=some d) (hr:S.regs d= .v (.tuple l)):yielded all.toArray a.tmps j=none:=by
 have h1:=h.regs d
 rw [hr] at h1
 have h2:=h1.v_inv
 unfold yielded
 rw [Array.getD_eq_getD_getElem?] at h2
 cases hx:a.tmps[d]? with
 |none=>simp [hj,hd,hx]
 |some x=>rw [hx] at h2;simp at h2;simp [hj,hd,hx,h2]
theorem guard_sound {all:List Oper} (h:Sat C S a w F e) (o:Oper) {yes no:St→Prop} (hg:guardS S all o.guard yes no):
 (Region.wanted o (yielded all.toArray a.tmps)=true∧ ∃S',yes S'∧Sat C S' a w F e)∨(Region.wanted o (yielded all.toArray a.tmps)=false∧ ∃S',no S'∧Sat C S' a w F e):=by
 unfold guardS at hg
 split at hg
 ·rename_i hn
  exact .inl ⟨by simp [Region.wanted,hn],S,hg,h⟩
 ·rename_i j want hgd
  split at hg
  case h_2=>exact hg.elim
  rename_i oj hj
  split at hg
  case h_2=>exact hg.elim
  rename_i d hd
  split at hg
  case h_3=>exact hg.elim
  case h_2=>
   rename_i l hr
   exact .inr ⟨by simp [Region.wanted,hgd,guard_none h hj hd hr],S,hg,h⟩
  rename_i b hr
  have hy:=guard_yield h hj hd hr
  have hw:Region.wanted o (yielded all.toArray a.tmps)=(b == want):=by
   simp [Region.wanted,hgd,hy]
  rw [hw]
  cases want<;>cases b<;>simp only [CondP] at hg
  ·exact .inl ⟨rfl,_,hg,h.refine hr rfl⟩
  ·exact .inr ⟨rfl,_,hg,h.refine hr rfl⟩
  ·exact .inr ⟨rfl,_,hg,h.refine hr rfl⟩
  ·exact .inl ⟨rfl,_,hg,h.refine hr rfl⟩
theorem skip_sat (h:Sat C S a w F e) {d:Option Nat} (hd:S.okD d=true):Sat C (S.put d (.v undef)) (a.put d undef) w F e:=by
 have:=h.next (bS.refl w F) (aH.refl e) h.mem (r:= .v undef) (x:=undef) .v hd
 exact this
theorem runOps_sound (hG:TyOk P G.tys) (all:List Oper) (K:St→Prop) (Q:Exit→Act→World→Prop) (hK: ∀S a w F e,K S→Sat C S a w F e→Q .normal a w): ∀(l:List Oper) (S:St) (a:Act) (w:World) (F:Nat→Prop) (e:Env),Sat C S a w F e→runOps P G all l S K→
 wpList P all.toArray Q l a w
 |[],S,a,w,F,e,h,hr=>hK S a w F e hr h
 |o::r,S,a,w,F,e,h,hr=>by
  simp only [runOps_cons,step2_eq,putS_eq] at hr
  unfold wpList
  rcases guard_sound h o hr with ⟨hw,S',hy,hS⟩|⟨hw,S',hdn,hS⟩
  ·rw [if_pos hw]
   left
   have hg:=step_sound hG hS o _ Q hy
   exact Oper.wp_mono (fun a' w' ⟨S2,F2,e2,hk,hs⟩=>runOps_sound hG all K Q hK r S2 a' w' F2 e2 hs hk) hg
  ·rw [if_neg (by rw [hw];simp)]
   obtain ⟨hd,hn⟩:=hdn.elim
   exact runOps_sound hG all K Q hK r _ _ w F e (skip_sat hS hd) hn
end
end Go.Ab
namespace Go.Ab
set_option linter.unusedVariables false
set_option linter.unusedSimpArgs false
section
variable {P:Program} {G:Gm} {C:Ctx} {S S':St} {a a':Act} {H H' H0:List Ob} {w w' w0:World} {F F' F0:Nat→Prop} {e e' e0:Env} {W:List Nat}
theorem Sat.calm (h:Sat C S a w F e) (T:bV w w' (fun _=>False)):Sat C S a w' F e:=
 have L:=h.mem.later (T.mono (own':=ap e S.heap 0) fun _ h=>h.elim)
 ⟨h.defers,h.size,h.base,fun t=>(h.regs t).mono L (aH.refl e),h.mem.calm T (fun _ hb=>hb) (fun _ hb=>.inl hb) (fun b hb=>Nat.lt_of_lt_of_le (h.mem.bound b hb) T.size)⟩
theorem touch_drew (w:World):bV w {w with drawn:=w.drawn+1} (fun _=>False):=⟨rfl,rfl,rfl,Nat.le_refl _,fun _ _ _=>rfl⟩
theorem hideH_get (W:List Nat): ∀(H:List Ob) (k i:Nat),(hideH W k H)[i]? =(H[i]?).map fun x=>match x with| .var T cs=>(match memB W (k+i) with|true=>.var T cs|false=>.gone)|x=>x
 |[],k,i=>by simp [hideH]
 |x::r,k,0=>by cases x<;>first|rfl|(simp [hideH];done)|(simp [hideH];rfl)
 |x::r,k,i+1=>by
  have:=hideH_get W r (k+1) i
  have e1:k+1+i=k+(i+1):=by omega
  rw [e1] at this
  cases x<;>simp [hideH,this]
def Seen (W:List Nat) (H:List Ob) (o:Nat):Prop:= ∀T cs,H[o]? =some (.var T cs)→memB W o=true
theorem hide_owner {o b:Nat} (h:ap e (hideH W 0 H) o b):ap e H o b∧Seen W H o:=by
 unfold ap at h⊢
 rw [hideH_get] at h
 cases hx:H[o]? with
 |none=>rw [hx] at h;exact h.elim
 |some x=>
  rw [hx] at h
  simp only [Option.map_some,Nat.zero_add] at h
  cases x with
  |var T cs=>
   simp only at h
   cases hm:memB W o with
   |true=>rw [hm] at h;exact ⟨h,fun T' cs' _=>hm⟩
   |false=>rw [hm] at h;exact h.elim
  |row el sz xs=>exact ⟨h,fun T' cs' hh=>by rw [hx] at hh;cases hh⟩
  |frz sz xs=>exact h.elim
  |ext R=>exact ⟨h,fun T' cs' hh=>by rw [hx] at hh;cases hh⟩
  |gone=>exact h.elim
theorem showH_get (W:List Nat): ∀(H H':List Ob) (k i:Nat),H.length≤H'.length→(showH W k H H')[i]? =match H[i]? with|some (.var T cs)=>(match memB W (k+i) with|true=>H'[i]? |false=>some (.var T cs))|_=>H'[i]?
 |[],H',k,i,_=>by simp [showH]
 |x::r,[],k,i,h=>by simp at h
 |x::r,y::s,k,0,_=>by
  cases x<;>simp [showH]
  split<;>simp_all
 |x::r,y::s,k,i+1,h=>by
  have:=showH_get W r s (k+1) i (by simpa using h)
  have e1:k+1+i=k+(i+1):=by omega
  rw [e1] at this
  cases x<;>simp [showH,this]
theorem showH_length (W:List Nat): ∀(H H':List Ob) (k:Nat),H.length≤H'.length→(showH W k H H').length=H'.length
 |[],H',k,_=>by simp [showH]
 |x::r,[],k,h=>by simp at h
 |x::r,y::s,k,h=>by
  have:=showH_length W r s (k+1) (by simpa using h)
  cases x<;>simp [showH,this]
def Ctx.at (w:World) (F:Nat→Prop) (e:Env) (W:List Nat) (H:List Ob):Ctx:=⟨w,fun b=> ∃o,ap e (hideH W 0 H) o b,e,F⟩
theorem Sat.hide (h:Sat C S a w F e) (W:List Nat):Sat (Ctx.at w F e W S.heap) (hide W S) a w F e:=by
 refine ⟨h.defers,h.size,h.mem.heap.len,h.regs,⟨⟨?_,fun o x hx=> ?_,fun o o' b h1 h2=>h.mem.heap.one _ _ _ (hide_owner h1).1 (hide_owner h2).1⟩,⟨rfl,rfl,rfl,Nat.le_refl _,fun _ _ _=>rfl⟩,fun o b hb=>.inr ⟨o,hb⟩,fun _ h=>h,h.mem.bound,fun b hb=>.inl hb,aH.refl e,⟨h.mem.gw,fun b ⟨o,hb⟩=>h.mem.gn (hide_owner hb).1⟩⟩⟩
 ·show e.len=(hideH W 0 S.heap).length
  rw [hideH_length];exact h.mem.heap.len
 ·have hx:(hideH W 0 S.heap)[o]? =some x:=hx
  rw [hideH_get] at hx
  cases hy:S.heap[o]? with
  |none=>rw [hy] at hx;cases hx
  |some y=>
   rw [hy] at hx
   simp only [Option.map_some,Nat.zero_add,Option.some.injEq] at hx
   have:=h.mem.heap.ob o y hy
   cases y with
   |var T cs=>
    simp only at hx
    cases hm:memB W o with
    |true=>rw [hm] at hx;subst hx;exact this
    |false=>rw [hm] at hx;subst hx;trivial
   |row el sz xs=>subst hx;exact this
   |frz sz xs=>subst hx;exact this
   |ext R=>subst hx;exact this
   |gone=>subst hx;exact this
theorem Sat.unhide (h:Sat C S a w F e) {W:List Nat} (k:Sat (Ctx.at w F e W S.heap) S' a' w' F' e'):Sat C (unhide W S S') a' w' F' e'∧
 (∀b,b<w.heap.size→ ¬(∃o,ap e (hideH W 0 S.heap) o b)→w'.heap[b]? =w.heap[b]?)∧
 (∀o b,ap e' (hideH W 0 (unhide W S S').heap) o b→w.heap.size≤b∨ ∃o,ap e (hideH W 0 S.heap) o b):=by
 have M:=h.mem
 have K:=k.mem
 have E:aH e e':=K.env
 have hlen:S.heap.length≤S'.heap.length:=by rw [←M.heap.len,←K.heap.len];exact E.len
 have hblk: ∀b,b<w.heap.size→ ¬(∃o,ap e (hideH W 0 S.heap) o b)→w'.heap[b]? =w.heap[b]? :=fun b hb hn=>K.mod.block b hb hn
 have hget: ∀(i:Nat),(Go.Ab.unhide W S S').heap[i]? =match S.heap[i]? with|some (.var T cs)=>(match memB W i with|true=>S'.heap[i]? |false=>some (.var T cs))|_=>S'.heap[i]? :=by
  intro i
  have:=showH_get W S.heap S'.heap 0 i hlen
  rw [Nat.zero_add] at this
  exact this
 have hsee: ∀i,Seen W S.heap i→(Go.Ab.unhide W S S').heap[i]? =S'.heap[i]? :=by
  intro i hs
  rw [hget]
  split
  ·rename_i T cs hx;rw [hs T cs hx]
  ·rfl
 have hhid: ∀i,¬Seen W S.heap i→ ∃T cs,S.heap[i]? =some (.var T cs)∧memB W i=false∧(Go.Ab.unhide W S S').heap[i]? =some (.var T cs):=by
  intro i hs
  cases hx:S.heap[i]? with
  |none=>exact absurd (fun T cs h=>by rw [hx] at h;cases h) hs
  |some x=>
   cases x with
   |var T cs=>
    cases hm:memB W i with
    |true=>exact absurd (fun T' cs' _=>hm) hs
    |false=>exact ⟨T,cs,rfl,rfl,by rw [hget,hx];simp only;rw [hm]⟩
   |_=>exact absurd (fun T cs h=>by rw [hx] at h;cases h) hs
 have hownhid: ∀i,¬Seen W S.heap i→ ∀b,ap e' (Go.Ab.unhide W S S').heap i b→ap e S.heap i b∧b=e.blk i:=by
  intro i hs b hb
  obtain ⟨T,cs,h1,h2,h3⟩:=hhid i hs
  have hi:i<e.len:=by rw [M.heap.len];exact (List.getElem?_eq_some_iff.1 h1).1
  unfold ap at hb⊢
  rw [h3] at hb
  rw [h1]
  have hb:e'.blk i=b:=hb
  rw [E.blk i hi] at hb
  exact ⟨hb,hb.symm⟩
 have hnotown: ∀i b,¬Seen W S.heap i→ap e S.heap i b→ ¬ ∃o,ap e (hideH W 0 S.heap) o b:=by
  rintro i b hs ho ⟨o,h2⟩
  obtain ⟨h3,h4⟩:=hide_owner h2
  have:=M.heap.one _ _ _ ho h3
  subst this
  exact hs h4
 have hownsee: ∀i b,Seen W S.heap i→ap e' (Go.Ab.unhide W S S').heap i b→ap e' S'.heap i b:=by
  intro i b hs hb
  unfold ap at hb⊢
  rw [hsee i hs] at hb
  exact hb
 have hours: ∀o b,ap e' (Go.Ab.unhide W S S').heap o b→(w.heap.size≤b∨ ∃o,ap e (hideH W 0 S.heap) o b)∨(¬Seen W S.heap o∧ap e S.heap o b):=by
  intro o b hb
  by_cases hs:Seen W S.heap o
  ·exact .inl (K.ours o b (hownsee o b hs hb))
  ·exact .inr ⟨hs,(hownhid o hs b hb).1⟩
 refine ⟨⟨k.defers,k.size,h.base,k.regs,⟨⟨?_,fun o x hx=> ?_,fun o1 o2 b h1 h2=> ?_⟩,⟨K.mod.os.trans M.mod.os,K.mod.tape.trans M.mod.tape,K.mod.output.trans M.mod.output,Nat.le_trans M.mod.size K.mod.size,fun b hb hn=> ?_⟩,fun o b hb=> ?_,fun b hb=>K.sub b (M.sub b hb),K.bound,fun b hb=> ?_,M.env.trans E,M.g⟩⟩,hblk,fun o b hb=> ?_⟩
 ·show e'.len=(showH W 0 S.heap S'.heap).length
  rw [showH_length W _ _ _ hlen];exact K.heap.len
 ·by_cases hs:Seen W S.heap o
  ·rw [hsee o hs] at hx;exact K.heap.ob o x hx
  ·obtain ⟨T,cs,h1,h2,h3⟩:=hhid o hs
   rw [h3] at hx
   injection hx with hx
   subst hx
   have hi:o<e.len:=by rw [M.heap.len];exact (List.getElem?_eq_some_iff.1 h1).1
   obtain ⟨hF,vs,hb,hsz,hrep⟩:=M.heap.ob o _ h1
   have hown:ap e S.heap o (e.blk o):=by unfold ap;rw [h1]
   have hbl:e.blk o<w.heap.size:=hown.lt M.heap
   have hno:=hnotown o _ hs hown
   have L:bS w F w' F':=⟨fun b hb=>K.sub b hb,fun b hb=>hblk b (M.bound b hb) (fun ⟨q,hq⟩=>ap.notF M.heap (hide_owner hq).1 hb)⟩
   refine ⟨?_,vs,?_,hsz,fun j s hj=>(hrep j s hj).mono L E⟩
   ·rw [E.blk o hi]
    intro hF'
    rcases K.fresh _ hF' with h4|h4|h4
    ·exact hF h4
    ·have h4:w.heap.size≤e.blk o:=h4
     omega
    ·exact hno h4
   ·rw [E.blk o hi,hblk _ hbl hno];exact hb
 ·by_cases s1:Seen W S.heap o1<;>by_cases s2:Seen W S.heap o2
  ·exact K.heap.one _ _ _ (hownsee _ _ s1 h1) (hownsee _ _ s2 h2)
  ·obtain ⟨k2,_⟩:=hownhid o2 s2 b h2
   rcases K.ours _ _ (hownsee _ _ s1 h1) with h4|h4
   ·have h4:w.heap.size≤b:=h4
    have:=k2.lt M.heap;omega
   ·exact absurd h4 (hnotown o2 b s2 k2)
  ·obtain ⟨k1,_⟩:=hownhid o1 s1 b h1
   rcases K.ours _ _ (hownsee _ _ s2 h2) with h4|h4
   ·have h4:w.heap.size≤b:=h4
    have:=k1.lt M.heap;omega
   ·exact absurd h4 (hnotown o1 b s1 k1)
  ·exact M.heap.one _ _ _ (hownhid o1 s1 b h1).1 (hownhid o2 s2 b h2).1
 ·rw [hblk b (Nat.lt_of_lt_of_le hb M.mod.size) (fun ⟨q,hq⟩=> ?_)]
  ·exact M.mod.block b hb hn
  ·rcases M.ours _ _ (hide_owner hq).1 with h4|h4
   ·omega
   ·exact hn h4
 ·rcases hours o b hb with (h4|⟨q,hq⟩)|⟨_,h4⟩
  ·exact .inl (Nat.le_trans M.mod.size h4)
  ·exact M.ours _ _ (hide_owner hq).1
  ·exact M.ours _ _ h4
 ·rcases K.fresh b hb with h4|h4|⟨q,hq⟩
  ·exact M.fresh b h4
  ·exact .inr (.inl (Nat.le_trans M.mod.size h4))
  ·rcases M.ours _ _ (hide_owner hq).1 with h5|h5
   ·exact .inr (.inl h5)
   ·exact .inr (.inr h5)
 ·obtain ⟨h1,h2⟩:=hide_owner hb
  rcases hours o b h1 with h4|⟨h4,h5⟩
  ·exact h4
  ·obtain ⟨T,cs,h6,h7,h8⟩:=hhid o h4
   have:=h2 T cs h8
   rw [h7] at this
   cases this
end
end Go.Ab
namespace Go.Ab
set_option linter.unusedVariables false
set_option linter.unusedSimpArgs false
section
variable {P:Program} {G:Gm} {C:Ctx} {fst:Bool} {S S':St} {a a':Act} {w w' w0:World} {F F' F0:Nat→Prop} {e e' e0:Env} {W:List Nat} {H0:List Ob}
def Open (e0:Env) (W:List Nat) (H0:List Ob):Nat→Prop:=fun b=> ∃o,ap e0 (hideH W 0 H0) o b
structure At (C:Ctx) (W:List Nat) (H0:List Ob) (w0:World) (F0:Nat→Prop) (e0:Env) (first:Bool) (S:St) (a:Act) (w:World) (F:Nat→Prop) (e:Env):Prop where
 sat:Sat C S a w F e
 agree:Agree (Open e0 W H0) w0 w
 env:aH e0 e
 vis: ∀o b,ap e (hideH W 0 S.heap) o b→b<w0.heap.size→Open e0 W H0 b
 start:HRep w0 F0 e0 H0
 bound: ∀b,F0 b→b<w0.heap.size
 same:first=true→F=F0
theorem yields_kept (h:At C W H0 w0 F0 e0 fst S a w F e) (hG:TyOk P G.tys) {o:Oper} {k:AV→Prop} (ht:takeB fst W H0 S o.op=true) (hv:valOp G.tys S o.op k):
 ∃r x,k r∧ch w F e r x∧ ∀w',Agree (Open e0 W H0) w0 w'→(execOp a.eval o).run P w'= .ok (.value x) w':=by
 have hs:=h.sat
 have any: ∀(X:Nat→Prop),XOk X F e S o.op→(∀w',Agree (Open e0 W H0) w0 w'→Agree X w w')→ ∃r x,k r∧ch w F e r x∧ ∀w',Agree (Open e0 W H0) w0 w'→(execOp a.eval o).run P w'= .ok (.value x) w':=by
  intro X hX hag
  obtain ⟨r,x,hK,hr,hy⟩:=valOp_sound (X:=X) hG hs.here o _ hX hv
  exact ⟨r,x,hK,hr,fun w' hw=>hy w' (hag w' hw)⟩
 by_cases hl: ∃T A,o.op= .load T A
 ·obtain ⟨T,A,hl⟩:=hl
  rw [hl] at ht
  simp only [takeB] at ht
  split at ht
  ·rename_i ob off hA
   unfold stillB at ht
   split at ht
   case h_2=>cases ht
   rename_i T' cs hob
   have hm:memB W ob=false:=by cases hm:memB W ob with|false=>rfl|true=>rw [hm] at ht;cases ht
   have hi:ob<e0.len:=by rw [h.start.len];exact (List.getElem?_eq_some_iff.1 hob).1
   have hb0:e.blk ob=e0.blk ob:=h.env.blk ob hi
   have hown:ap e0 H0 ob (e0.blk ob):=by unfold ap;rw [hob]
   have hnot: ¬Open e0 W H0 (e0.blk ob):=by
    rintro ⟨q,hq⟩
    obtain ⟨h1,h2⟩:=hide_owner hq
    have:=h.start.one _ _ _ hown h1
    subst this
    have:=h2 T' cs hob
    rw [hm] at this;cases this
   refine any (fun b=>b≠e.blk ob) ⟨fun T1 A1 cs1 h1 h2=> ?_,fun T1 A1 o1 off1 h1 h2=> ?_,fun T1 A1 o1 n sz i off1 h1 h2=> ?_,fun s1 d1 A1 h1=>by rw [hl] at h1;cases h1⟩ (fun w' hw b hb hn=> ?_)
   ·rw [hl] at h1;injection h1 with _ h1;subst h1;rw [hA] at h2;cases h2
   ·rw [hl] at h1;injection h1 with _ h1;subst h1;rw [hA] at h2;injection h2 with h2 _;subst h2;exact fun hh=>hh rfl
   ·rw [hl] at h1;injection h1 with _ h1;subst h1;rw [hA] at h2;cases h2
   ·have:b=e0.blk ob:=by rw [←hb0];exact Classical.not_not.1 hn
    subst this
    have hlt:=hown.lt h.start
    rw [hw _ hlt hnot,h.agree _ hlt hnot]
  ·rename_i cs hA
   have hF:=h.same ht
   refine any (fun b=> ¬F0 b) ⟨fun T1 A1 cs1 h1 h2 b hb=> ?_,fun T1 A1 o1 off1 h1 h2=> ?_,fun T1 A1 o1 n sz i off1 h1 h2=> ?_,fun s1 d1 A1 h1=>by rw [hl] at h1;cases h1⟩ (fun w' hw b hb hn=> ?_)
   ·rw [hF] at hb;exact fun hh=>hh hb
   ·rw [hl] at h1;injection h1 with _ h1;subst h1;rw [hA] at h2;cases h2
   ·rw [hl] at h1;injection h1 with _ h1;subst h1;rw [hA] at h2;cases h2
   ·have hF0:F0 b:=Classical.not_not.1 hn
    have hnot: ¬Open e0 W H0 b:=fun ⟨q,hq⟩=>ap.notF h.start (hide_owner hq).1 hF0
    rw [hw _ (h.bound b hF0) hnot,h.agree _ (h.bound b hF0) hnot]
  ·cases ht
 ·refine any (fun _=>True) ⟨fun T1 A1 cs1 h1=>absurd ⟨T1,A1,h1⟩ hl,fun T1 A1 o1 off1 h1=>absurd ⟨T1,A1,h1⟩ hl,fun T1 A1 o1 n sz i off1 h1=>absurd ⟨T1,A1,h1⟩ hl,fun s1 d1 A1 h1=>.inl (by rw [h1] at ht;simp only [takeB] at ht;split at ht;exact ⟨_,by assumption⟩;cases ht)⟩ (fun w' hw b hb hn=>absurd trivial hn)
theorem At.put (h:At C W H0 w0 F0 e0 fst S a w F e) {d:Option Nat} {r:AV} {x:Value} (hr:ch w F e r x) (hd:S.okD d=true):At C W H0 w0 F0 e0 fst (S.put d r) (a.put d x) w F e:=by
 refine ⟨?_,h.agree,h.env,?_,h.start,h.bound,h.same⟩
 ·have:=h.sat.next (bS.refl w F) (aH.refl e) h.sat.mem hr hd
  exact this
 ·have:(S.put d r).heap=S.heap:=by cases d<;>rfl
  rw [this];exact h.vis
theorem At.swap (h:At C W H0 w0 F0 e0 fst S a w F e) {S1:St} (hs:Sat C S1 a w F e) (hh:S1.heap=S.heap):At C W H0 w0 F0 e0 fst S1 a w F e:=
 ⟨hs,h.agree,h.env,by rw [hh];exact h.vis,h.start,h.bound,h.same⟩
theorem guard_sound' {all:List Oper} (h:Sat C S a w F e) (o:Oper) {yes no:St→Prop} (hg:guardS S all o.guard yes no):
 (Region.wanted o (yielded all.toArray a.tmps)=true∧ ∃S',yes S'∧Sat C S' a w F e∧S'.heap=S.heap)∨(Region.wanted o (yielded all.toArray a.tmps)=false∧ ∃S',no S'∧Sat C S' a w F e∧S'.heap=S.heap):=by
 have:=guard_sound (all:=all) h o (yes:=fun S'=>yes S'∧S'.heap=S.heap) (no:=fun S'=>no S'∧S'.heap=S.heap) ?_
 ·rcases this with ⟨h1,S',⟨h2,h3⟩,h4⟩|⟨h1,S',⟨h2,h3⟩,h4⟩
  ·exact .inl ⟨h1,S',h2,h4,h3⟩
  ·exact .inr ⟨h1,S',h2,h4,h3⟩
 ·unfold guardS at hg⊢
  split at hg
  ·exact ⟨hg,rfl⟩
  ·split at hg
   case h_2=>exact hg.elim
   split at hg
   case h_2=>exact hg.elim
   split at hg
   case h_3=>exact hg.elim
   case h_2=>exact ⟨hg,rfl⟩
   rename_i b hb
   split at hg<;>simp only [CondP] at hg⊢ <;>cases b<;>exact ⟨hg,rfl⟩
theorem plan_sound (hG:TyOk P G.tys) {all:List Oper} {n:Nat} {K:St→Prop} {R:Act→World→Prop} (hsel:Region.noSelect all.toArray=true) (hh:HeadOnly all.toArray n):
 ∀(pl:Plan) (f:Nat) (had:Array Bool) (fst top:Bool) (S:St) (a:Act) (w:World) (F:Nat→Prop) (e:Env),At C W H0 w0 F0 e0 fst S a w F e→HeadInv .any all.toArray n had→planB all.toArray n pl f had top=true→runPlan P G all W H0 pl fst S K→
  (top=true→Mix P all.toArray (Calm R) (Agree (Open e0 W H0) w0) n (fun a w=> ∃S F e,K S∧Sat C S a w F e) f had a w)∧
  (top=false→ ∀i∈pl.alts,i∈Region.ready .any all.toArray had→i<n∧ ∃f',f=f'+1∧wpOp P all.toArray (Calm R) i (fun a' w'=>Agree (Open e0 W H0) w0 w'∧Mix P all.toArray (Calm R) (Agree (Open e0 W H0) w0) n (fun a w=> ∃S F e,K S∧Sat C S a w F e) f' (had.setIfInBounds i true) a' w') a w):=by
 intro pl
 induction pl with
 |fin=>
  intro f had fst top S a w F e h inv hB hr
  simp only [planB,Bool.and_eq_true] at hB
  refine ⟨fun _=> ?_,fun ht=>by rw [ht] at hB;simp at hB⟩
  obtain ⟨⟨_,hf⟩,hs⟩:=hB
  have hf0:f=0:=Nat.eq_of_beq_eq_true hf
  subst hf0
  exact ⟨hs,S,F,e,hr,h.sat⟩
 |take i p ih=>
  intro f had fst top S a w F e h inv hB hr
  refine ⟨fun ht=> ?_,fun ht=>by rw [ht] at hB;simp [planB] at hB⟩
  subst ht
  cases f with
  |zero=>simp [planB] at hB
  |succ f=>
   simp only [planB,Bool.and_eq_true,Bool.true_and] at hB
   obtain ⟨⟨⟨hlt,hrd⟩,hfree⟩,hB⟩:=hB
   have hin:i<n:=by simpa [Nat.blt_eq] using hlt
   have hrd':i∈Region.ready .any all.toArray had:=by simpa using hrd
   rw [runPlan_take] at hr
   obtain ⟨_,o,hoi,_⟩:=mem_ready.1 hrd'
   have hoi':all[i]? =some o:=by simpa using hoi
   rw [hoi'] at hr
   simp only [putS_eq,hookR_eq] at hr
   have hinv:=inv.set hrd' hin
   rcases guard_sound' h.sat o hr with ⟨hw,S',hy,hS,hheap⟩|⟨hw,S',hdn,hS,hheap⟩
   ·have hA:=h.swap hS hheap
    obtain ⟨hd,hy⟩:=hy.elim
    obtain ⟨htk,hy⟩:=hy.elim
    obtain ⟨r,x,hk,hrep,hex⟩:=yields_kept hA hG htk hy
    refine mix_take hoi hsel hh hin Calm.noPanic f had a w inv (Region.free_spec hoi hfree) hrd' (.inl ⟨hw,hex⟩) hA.agree ?_
    exact (ih f _ fst true _ _ w F e (hA.put hrep hd) hinv hB hk).1 rfl
   ·have hA:=h.swap hS hheap
    obtain ⟨hd,hn⟩:=hdn.elim
    refine mix_take hoi hsel hh hin Calm.noPanic f had a w inv (Region.free_spec hoi hfree) hrd' (v:=undef) (.inr ⟨hw,rfl⟩) hA.agree ?_
    exact (ih f _ fst true _ _ w F e (hA.put .v hd) hinv hB hn).1 rfl
 |alt i p q ihp ihq=>
  intro f had fst top S a w F e h inv hB hr
  have hB0:=hB
  simp only [planB,Bool.and_eq_true] at hB
  obtain ⟨⟨htop,hBp⟩,hBq⟩:=hB
  rw [runPlan_alt] at hr
  cases f with
  |zero=>simp at hBp
  |succ f=>
   simp only [Bool.and_eq_true] at hBp
   obtain ⟨hlt,hBp⟩:=hBp
   have hin:i<n:=by simpa [Nat.blt_eq] using hlt
   have each: ∀j∈(Plan.alt i p q).alts,j∈Region.ready .any all.toArray had→j<n∧ ∃f',f+1=f'+1∧wpOp P all.toArray (Calm R) j (fun a' w'=>Agree (Open e0 W H0) w0 w'∧Mix P all.toArray (Calm R) (Agree (Open e0 W H0) w0) n (fun a w=> ∃S F e,K S∧Sat C S a w F e) f' (had.setIfInBounds j true) a' w') a w:=by
    intro j hj hjr
    simp only [Plan.alts,List.mem_cons] at hj
    by_cases hji:j=i
    ·subst hji
     refine ⟨hin,f,rfl,?_⟩
     obtain ⟨_,o,hoi,_⟩:=mem_ready.1 hjr
     have hoi':all[j]? =some o:=by simpa using hoi
     have hr1:=hr.l
     rw [hoi'] at hr1
     simp only [putS_eq,hideF_eq,unhideF_eq,step2_eq] at hr1
     have hinv:=inv.set hjr hin
     unfold wpOp
     simp only [hoi]
     rcases guard_sound' h.sat o hr1 with ⟨hw,S',hy,hS,hheap⟩|⟨hw,S',hdn,hS,hheap⟩
     ·have hA:=h.swap hS hheap
      simp only [hw,if_true]
      left
      have hg:=step_sound (C:=Ctx.at w F e W S'.heap) hG (hS.hide W) o _ (Calm R) hy
      refine Oper.wp_mono ?_ hg
      rintro a' w' ⟨S2,F2,e2,hk,hs2⟩
      obtain ⟨hsat,hblk,hvis⟩:=hS.unhide hs2
      have hag:Agree (Open e0 W H0) w0 w':=by
       intro b hb hn
       have hbw:b<w.heap.size:=by
        have:=h.agree b hb hn
        rcases Nat.lt_or_ge b w.heap.size with hlt|hge
        ·exact hlt
        ·rw [Array.getElem?_eq_none hge,Array.getElem?_eq_getElem hb] at this;cases this
       rw [hblk b hbw (fun ⟨q,hq⟩=>hn (hA.vis q b hq hb))]
       exact h.agree b hb hn
      refine ⟨hag,(ihp f _ false true _ _ w' F2 e2 ⟨hsat,hag,h.env.trans hs2.mem.env,fun o b hb hlt=> ?_,h.start,h.bound,fun hf=>by cases hf⟩ hinv hBp hk).1 rfl⟩
      rcases hvis o b hb with h4|⟨q,hq⟩
      ·by_cases hn:Open e0 W H0 b
       ·exact hn
       ·have:=h.agree b hlt hn
        rw [Array.getElem?_eq_none h4,Array.getElem?_eq_getElem hlt] at this;cases this
      ·exact hA.vis q b hq hlt
     ·have hA:=h.swap hS hheap
      simp only [hw,Bool.false_eq_true,if_false]
      obtain ⟨hd,hn⟩:=hdn.elim
      have hA2:=hA.put (x:=undef) .v hd
      refine ⟨hA.agree,(ihp f _ false true _ _ w F e ⟨hA2.sat,hA2.agree,hA2.env,hA2.vis,hA2.start,hA2.bound,fun hf=>by cases hf⟩ hinv hBp hn).1 rfl⟩
    ·have hjq:j∈q.alts:=hj.resolve_left hji
     exact (ihq (f+1) had fst false S a w F e h inv hBq hr.r).2 rfl j hjq hjr
   refine ⟨fun ht=> ?_,fun _=>each⟩
   subst ht
   simp only [Bool.not_true,Bool.false_or,beq_iff_eq] at htop
   refine ⟨by rw [htop];simp [Plan.alts],fun j hj=> ?_⟩
   obtain ⟨h1,f',h2,h3⟩:=each j (by rw [←htop];exact hj) hj
   have:f=f':=by omega
   subst this
   exact ⟨h1,h3⟩
 |nil=>
  intro f had fst top S a w F e h inv hB hr
  refine ⟨fun ht=>by rw [ht] at hB;simp [planB] at hB,fun _ i hi=>by simp [Plan.alts] at hi⟩
def Post (C:Ctx) (Q:Exit→St→Prop):Exit→Act→World→Prop:=fun x a' w'=> ∃S' F' e',Q x S'∧Sat C S' a' w' F' e'
theorem cp.sound (hG:TyOk P G.tys) (hm:P.follows .mixedOrders=true) (h:Sat C S a w F e) {id:Nat} {ops:Array Oper} {Q:Exit→St→Prop} (hr:cp P G ops S (Q .normal)):(Code.region id ops true).wp P (Post C Q) a w:=by
 obtain ⟨n,pl,W,M,hB,hrun,hM⟩:=hr.out
 simp only [drawB,Bool.and_eq_true] at hB
 obtain ⟨⟨hsel,hhead⟩,hplan⟩:=hB
 have hn:n≤ops.size:=by
  simp only [Bool.or_eq_true,Bool.and_eq_true,decide_eq_true_eq] at hhead
  omega
 have hw:=h.calm (touch_drew w)
 let w1:World:= {w with drawn:=w.drawn+1}
 have inv0:HeadInv .any ops n (Array.replicate ops.size false):=
  ⟨by simp,fun j oj _ hl=>(by rw [getD_replicate_false] at hl;cases hl),fun t _ ht=>getD_in (by simpa using ht) (getD_replicate_false _ _)⟩
 have e1:ops.toList.toArray=ops:=by simp
 have hat:At C W S.heap w1 F e true S a w1 F e:=
  ⟨hw,Agree.refl _,aH.refl e,fun o b hb _=>⟨o,hb⟩,hw.mem.heap,hw.mem.bound,fun _=>rfl⟩
 have key:=(plan_sound (R:=fun a' w'=>Post C Q .normal a' w') hG (all:=ops.toList) (n:=n) (K:=M) (by rw [e1];exact hsel) (by rw [e1];exact headOnly_of hhead) pl n _ true true S a w1 F e hat (by rw [e1];exact inv0) (by rw [e1];exact hplan) hrun).1 rfl
 rw [e1] at key
 have hdl:(ops.toList.drop n).length=ops.size - n:=by simp
 refine wp_mono (Q:=Calm fun a' w'=>Post C Q .normal a' w') (wp_region_any hm ?_) (fun x a' w' hx=>by rw [hx.1];exact hx.2)
 have:=mix_any (fun had a' w' hs hL=> ?_) n _ a w1 key
 ·rw [show n+(ops.size - n)=ops.size by omega] at this
  exact this
 ·obtain ⟨S',F',e',hk,hsat⟩:=hL
  obtain ⟨S'',hwk,hops⟩:=hM S' hk
  obtain ⟨F2,e2,hs2⟩:=hwk.out C a' w' F' e' hsat
  have:=wpAny_of_seq (md:= .any) (P:=P) (ops:=ops) (Q':=Calm fun a' w'=>Post C Q .normal a' w') (ops.toList.drop n) n had a' w' (fun j=>by simp [List.getElem?_drop]) (by rw [hdl];exact hs) ?_
  ·rwa [hdl] at this
  ·have:=runOps_sound hG ops.toList (Q .normal) (Calm fun a' w'=>Post C Q .normal a' w') (fun S2 a2 w2 F2 e2 hk2 hs2=>⟨rfl,S2,F2,e2,hk2,hs2⟩) (ops.toList.drop n) S'' a' w' F2 e2 hs2 hops
   rwa [e1] at this
theorem run_sound (hG:TyOk P G.tys) (hm:P.follows .mixedOrders=true): ∀(c:Code) (S:St) (Q:Exit→St→Prop) (a:Act) (w:World) (F:Nat→Prop) (e:Env),Sat C S a w F e→run P G c S Q→c.wp P (Post C Q) a w
 | .skip,S,Q,a,w,F,e,h,hr=>wp_skip ⟨S,F,e,hr,h⟩
 | .region _ ops false,S,Q,a,w,F,e,h,hr=>by
   refine wp_region_list ?_
   have:=runOps_sound hG ops.toList (Q .normal) (Post C Q) (fun S2 a2 w2 F2 e2 hk2 hs2=>⟨S2,F2,e2,hk2,hs2⟩) ops.toList S a w F e h hr
   simpa using this
 | .region _ ops true,S,Q,a,w,F,e,h,hr=>cp.sound hG hm h hr
 | .seq x y,S,Q,a,w,F,e,h,hr=>by
   refine wp_seq (wp_mono (run_sound hG hm x S _ a w F e h hr) ?_)
   rintro ex a' w' ⟨S',F',e',hq,hs⟩
   cases ex with
   |normal=>exact run_sound hG hm y S' Q a' w' F' e' hs hq
   |_=>exact ⟨S',F',e',hq,hs⟩
 | .cond c x y,S,Q,a,w,F,e,h,hr=>by
   rw [run_cond] at hr
   split at hr
   case h_2=>exact hr.elim
   rename_i b hb
   have hc:=h.here.ev c
   rw [hb] at hc
   have hc:=hc.v_inv
   have href: ∀t,b=t→Sat C (refineC S c t) a w F e:=by
    intro t ht
    unfold refineC
    split
    ·exact h.refine hb ht
    ·exact h
   cases b
   ·exact wp_cond_false hc (run_sound hG hm y _ Q a w F e (href false rfl) hr)
   ·exact wp_cond_true hc (run_sound hG hm x _ Q a w F e (href true rfl) hr)
 | .block id c,S,Q,a,w,F,e,h,hr=>by
   refine wp_block (wp_mono (run_sound hG hm c S _ a w F e h hr) ?_)
   rintro ex a' w' ⟨S',F',e',hq,hs⟩
   cases ex with
   |exit i=>
    simp only [blockK] at hq
    unfold Exit.inBlock
    split at hq
    ·rename_i hi
     have:=Nat.eq_of_beq_eq_true hi
     simp only [this,if_true]
     exact ⟨S',F',e',hq,hs⟩
    ·rename_i hi
     have:i≠id:=fun hh=>by subst hh;simp at hi
     simp only [this,if_false]
     exact ⟨S',F',e',hq,hs⟩
   |_=>exact ⟨S',F',e',hq,hs⟩
 | .loop c,S,Q,a,w,F,e,h,hr=>False.elim hr
 | .exit id,S,Q,a,w,F,e,h,hr=>wp_exit ⟨S,F,e,hr,h⟩
 | .scope c,S,Q,a,w,F,e,h,hr=>by
   refine wp_scope_straight (wp_mono (run_sound hG hm c S _ a w F e h hr) ?_)
   rintro ex a' w' ⟨S',F',e',hq,hs⟩
   cases ex with
   |goto l=>exact hq.elim
   |_=>exact ⟨S',F',e',hq,hs⟩
 | .label _,S,Q,a,w,F,e,h,hr=>wp_label ⟨S,F,e,hr,h⟩
 | .ret,S,Q,a,w,F,e,h,hr=>wp_ret ⟨S,F,e,hr,h⟩
 | .rangeFunc ..,S,Q,a,w,F,e,h,hr=>False.elim hr
 | .goto _,S,Q,a,w,F,e,h,hr=>False.elim hr
 | .refuse _,S,Q,a,w,F,e,h,hr=>False.elim hr
structure dz (P:Program) (c:Code) (S:St) (Q:Exit→St→Prop):Prop where
 out: ∀(C:Ctx) (a:Act) (w:World) (F:Nat→Prop) (e:Env),Sat C S a w F e→c.wp P (Post C Q) a w
theorem dz.run (hG:TyOk P G.tys) (hm:P.follows .mixedOrders=true) {c:Code} {Q:Exit→St→Prop} (h:Go.Ab.run P G c S Q):dz P c S Q:=
 ⟨fun C a w F e hs=>run_sound hG hm c S Q a w F e hs h⟩
theorem dz.mono {c:Code} {Q Q':Exit→St→Prop} (h:dz P c S Q) (hq: ∀x S',Q x S'→Q' x S'):dz P c S Q':=
 ⟨fun C a w F e hs=>wp_mono (h.out C a w F e hs) (by rintro x a' w' ⟨S',F',e',h1,h2⟩;exact ⟨S',F',e',hq _ _ h1,h2⟩)⟩
theorem dz.weak {c:Code} {Q:Exit→St→Prop} (hw:bl S S') (h:dz P c S' Q):dz P c S Q:=
 ⟨fun C a w F e hs=>let ⟨F',e',hs'⟩:=hw.out C a w F e hs;h.out C a w F' e' hs'⟩
theorem dz.seq {x y:Code} {Q:Exit→St→Prop} (I:Exit→St→Prop) (h:dz P x S I) (hy: ∀S',I .normal S'→dz P y S' Q) (hx: ∀ex S',ex≠ .normal→I ex S'→Q ex S'):dz P (.seq x y) S Q:=by
 refine ⟨fun C a w F e hs=>wp_seq (wp_mono (h.out C a w F e hs) ?_)⟩
 rintro ex a' w' ⟨S',F',e',hq,hs'⟩
 cases ex with
 |normal=>exact (hy S' hq).out C a' w' F' e' hs'
 |_=>exact ⟨S',F',e',hx _ S' (by simp) hq,hs'⟩
theorem dz.seqK {x y:Code} {Q:Exit→St→Prop} (h:dz P x S fun ex S'=>match ex with| .normal=>dz P y S' Q|ex=>Q ex S'):dz P (.seq x y) S Q:=by
 refine ⟨fun C a w F e hs=>wp_seq (wp_mono (h.out C a w F e hs) ?_)⟩
 rintro ex a' w' ⟨S',F',e',hq,hs'⟩
 cases ex with
 |normal=>exact hq.out C a' w' F' e' hs'
 |_=>exact ⟨S',F',e',hq,hs'⟩
theorem dz.cond {c:Operand} {x y:Code} {Q:Exit→St→Prop} {b:Bool} (hb:S.ev c= .v (.bool b)) (h1:b=true→dz P x (refineC S c true) Q) (h2:b=false→dz P y (refineC S c false) Q):dz P (.cond c x y) S Q:=by
 refine ⟨fun C a w F e h=> ?_⟩
 have hc:=h.here.ev c
 rw [hb] at hc
 have hc:=hc.v_inv
 have href: ∀t,b=t→Sat C (refineC S c t) a w F e:=by
  intro t ht
  unfold refineC
  split
  ·exact h.refine hb ht
  ·exact h
 cases b
 ·exact wp_cond_false hc ((h2 rfl).out C a w F e (href false rfl))
 ·exact wp_cond_true hc ((h1 rfl).out C a w F e (href true rfl))
theorem dz.block {id:Nat} {c:Code} {Q:Exit→St→Prop} (h:dz P c S (blockK id Q)):dz P (.block id c) S Q:=by
 refine ⟨fun C a w F e hs=>wp_block (wp_mono (h.out C a w F e hs) ?_)⟩
 rintro ex a' w' ⟨S',F',e',hq,hs⟩
 cases ex with
 |exit i=>
  simp only [blockK] at hq
  unfold Exit.inBlock
  split at hq
  ·rename_i hi
   have:=Nat.eq_of_beq_eq_true hi
   simp only [this,if_true]
   exact ⟨S',F',e',hq,hs⟩
  ·rename_i hi
   have:i≠id:=fun hh=>by subst hh;simp at hi
   simp only [this,if_false]
   exact ⟨S',F',e',hq,hs⟩
 |_=>exact ⟨S',F',e',hq,hs⟩
theorem dz.scope {c:Code} {Q:Exit→St→Prop} (h:dz P c S (scopeK Q)):dz P (.scope c) S Q:=by
 refine ⟨fun C a w F e hs=>wp_scope_straight (wp_mono (h.out C a w F e hs) ?_)⟩
 rintro ex a' w' ⟨S',F',e',hq,hs⟩
 cases ex with
 |goto l=>exact hq.elim
 |_=>exact ⟨S',F',e',hq,hs⟩
theorem dz.loop {c:Code} {Q:Exit→St→Prop} (I:Nat→St→Prop) (n0:Nat) (S0:St) (h0:bl S S0) (i0:I n0 S0)
 (round: ∀n S1,I n S1→dz P c S1 fun x S2=>match x with| .normal=> ∃S3 n',bl S2 S3∧I n' S3∧n'<n|x=>Q x S2):dz P (.loop c) S Q:=by
 refine ⟨fun C a w F e h=> ?_⟩
 obtain ⟨F0,e0,h0⟩:=h0.out C a w F e h
 refine wp_loop_ghost (fun n a w=> ∃S F e,I n S∧Sat C S a w F e) n0 ⟨S0,F0,e0,i0,h0⟩ ?_
 rintro n a' w' ⟨S1,F1,e1,hI,hs⟩
 refine wp_mono ((round n S1 hI).out C a' w' F1 e1 hs) ?_
 rintro ex a2 w2 ⟨S2,F2,e2,hq,hs2⟩
 cases ex with
 |normal=>
  obtain ⟨S3,n',hw3,hI3,hlt⟩:=hq
  obtain ⟨F3,e3,hs3⟩:=hw3.out C a2 w2 F2 e2 hs2
  exact ⟨n',hlt,S3,F3,e3,hI3,hs3⟩
 |_=>exact ⟨S2,F2,e2,hq,hs2⟩
end
end Go.Ab
namespace Go.Ab
set_option linter.unusedVariables false
set_option linter.unusedSimpArgs false
def initRegs (args:List AV):Nat→AV:=fun t=>(args[t]?).getD .dead
def resList (G:Gm) (S:St):List ResultVar→(List AV→Prop)→Prop
 |[],k=>k []
 | .tmp t::r,k=>resList G S r fun vs=>k (S.regs t::vs)
 | .cell t T::r,k=>(match ty G.tys T with|some ti=>loadV S ti (S.regs t) fun x=>resList G S r fun vs=>k (x::vs)|none=>False)
def resS (G:Gm) (S:St) (rs:List ResultVar) (k:AV→Prop):Prop:=
 resList G S rs fun vs=>match vs with|[x]=>k x|vs=>k (.tup vs)
def purR (H:List Ob) (r:AV) (k:AV→Prop):Prop:=
 match r with
 | .tup vs=>purAs H vs fun vs=>k (.tup vs)
 |r=>purA H r k
def finP (G:Gm) (rs:List ResultVar) (K:AV→Prop) (x:Exit) (S:St):Prop:=
 match x with
 | .normal=>resS G S rs fun r=>purR S.heap r K
 | .ret=>resS G S rs fun r=>purR S.heap r K
 |_=>False
def finC (G:Gm) (rs:List ResultVar) (K:AV→List Ob→Prop) (x:Exit) (S:St):Prop:=
 match x with
 | .normal=>resS G S rs fun r=>K r S.heap
 | .ret=>resS G S rs fun r=>K r S.heap
 |_=>False
section
variable {P:Program} {G:Gm} {C:Ctx} {S:St} {a:Act} {w w':World} {F F':Nat→Prop} {e e':Env}
theorem loadV_var (hG:TyOk P G.tys) (H:Here S a w F e) {T:TypeId} {ti:TI} (ht:ty G.tys T=some ti) {t:Nat} {q:AV→Prop} (h:loadV S ti (S.regs t) q):
 ∃r x,q r∧ch w F e r x∧(do loadVar T (←asAddr (a.tmps.getD t undef)):Sem Value).run P w= .ok x w:=by
 let o:Oper:= {dst:=none,op:= .load T (.tmp t),type:=0,pos:= "",after:= #[],guard:=none}
 obtain ⟨r,x,hq,hr,hy⟩:=loadV_sound (X:=fun _=>False) (A:= .tmp t) (o:=o) hG H ht rfl XOk.none h
 refine ⟨r,x,hq,hr,?_⟩
 have:=hy w (Agree.refl w)
 simp only [execOp,o,Sem.run_bind,Instr.loadAt] at this
 have e1:a.eval (.tmp t)=a.tmps.getD t undef:=rfl
 rw [e1] at this
 generalize a.tmps.getD t undef=X at*
 cases X with
 |pointer p=>
  cases p with
  |none=>simp [Instr.sureAddr,Result.andThen] at this
  |some ad=>
   simp only [Instr.sureAddr,asAddr,Sem.run_bind,Sem.run_pure,Result.andThen_ok] at this⊢
   cases hl:(loadVar T ad).run P w with
   |ok y w2=>
    rw [hl] at this
    simp at this
    rw [this.1,this.2]
   |halt z w2=>rw [hl] at this;simp at this
 |_=>simp [Instr.sureAddr,Result.andThen] at this
theorem resList_sound (hG:TyOk P G.tys) (H:Here S a w F e): ∀(rs:List ResultVar) {k:List AV→Prop},resList G S rs k→
 ∃vs xs,k vs∧bA w F e vs xs.toArray∧(rs.mapM (fun r=>match r with| .tmp t=>pure (a.tmps.getD t undef)| .cell x t=>do loadVar t (←asAddr (a.tmps.getD x undef))):Sem (List Value)).run P w= .ok xs w
 |[],k,h=>⟨[],[],h,⟨rfl,fun j s hj=>by simp at hj⟩,by simp⟩
 | .tmp t::r,k,h=>by
   simp only [resList] at h
   obtain ⟨vs,xs,hk,hr,hrun⟩:=resList_sound hG H r h
   refine ⟨S.regs t::vs,a.tmps.getD t undef::xs,hk,⟨by have:=hr.1;simp at this⊢;omega,fun j s hj=> ?_⟩,?_⟩
   ·cases j with
    |zero=>simp at hj;subst hj;exact H.regs t
    |succ j=>simpa using hr.2 j s (by simpa using hj)
   ·simp only [List.mapM_cons,Sem.run_bind,Sem.run_pure,Result.andThen_ok,hrun]
 | .cell t T::r,k,h=>by
   simp only [resList] at h
   split at h
   case h_2=>exact h.elim
   rename_i ti ht
   obtain ⟨x,y,hk,hx,hload⟩:=loadV_var hG H ht h
   obtain ⟨vs,xs,hk,hr,hrun⟩:=resList_sound hG H r hk
   refine ⟨x::vs,y::xs,hk,⟨by have:=hr.1;simp at this⊢;omega,fun j s hj=> ?_⟩,?_⟩
   ·cases j with
    |zero=>simp at hj;subst hj;exact hx
    |succ j=>simpa using hr.2 j s (by simpa using hj)
   ·simp only [List.mapM_cons]
    rw [Sem.run_bind,hload]
    simp only [Sem.run_bind,Sem.run_pure,Result.andThen_ok,hrun]
theorem resS_sound (hG:TyOk P G.tys) (H:Here S a w F e) (fn:Func) {k:AV→Prop} (h:resS G S fn.results.toList k): ∃r x,k r∧ch w F e r x∧(results fn a.tmps).run P w= .ok x w:=by
 obtain ⟨vs,xs,hk,hr,hrun⟩:=resList_sound hG H _ h
 have hm:(fn.results.mapM (fun r=>match r with| .tmp t=>pure (a.tmps.getD t undef)| .cell x t=>do loadVar t (←asAddr (a.tmps.getD x undef))):Sem (Array Value)).run P w= .ok xs.toArray w:=by
  rw [Array.mapM_eq_mapM_toList,Sem.run_map,hrun]
  rfl
 have hres:(results fn a.tmps).run P w= .ok (if h:xs.toArray.size=1 then xs.toArray[0] else .tuple xs.toArray) w:=by
  unfold results
  rw [Sem.run_bind]
  refine Eq.trans (congrArg (fun z=>Result.andThen z _) (?_ :_=Result.ok xs.toArray w)) rfl
  rw [←hm]
  congr 2
 rw [hres]
 split at hk
 ·rename_i x
  obtain ⟨h1,h2⟩:=hr
  have hl:xs.length=1:=by simpa using h1
  obtain ⟨y,rfl⟩:=List.length_eq_one_iff.1 hl
  exact ⟨x,y,hk,by simpa using h2 0 x rfl,by simp⟩
 ·rename_i hne
  refine ⟨.tup vs,.tuple xs.toArray,hk,.tup hr.1 hr.2,?_⟩
  have: ¬xs.toArray.size=1:=by
   intro h1
   rw [hr.1] at h1
   obtain ⟨y,rfl⟩:=List.length_eq_one_iff.1 h1
   exact hne y rfl
  rw [dif_neg this]
theorem init_sat {H:List Ob} (M:Mem C H w F e) (hb:C.e0.len=H.length) {args:List AV} {vs:Array Value} (hr:bA w F e args vs) {n:Nat} (hn:args.length≤n):
 Sat C ⟨n,H.length,initRegs args,H⟩ {tmps:=vs++Array.replicate (n - vs.size) undef,defers:=[]} w F e:=by
 refine ⟨rfl,by have:=hr.1;simp;omega,hb,fun t=> ?_,M⟩
 simp only [initRegs]
 rw [Array.getD_eq_getD_getElem?,Array.getElem?_append]
 cases ht:args[t]? with
 |none=>exact .dead
 |some s=>
  have hlt:=(List.getElem?_eq_some_iff.1 ht).1
  rw [if_pos (by rw [hr.1];exact hlt),←Array.getD_eq_getD_getElem?]
  exact hr.2 t s ht
theorem dy {g:FuncId} {fn:Func} {c:Code} (hf:P.funcs[g]? =some fn) (hb:fn.body=some c) (hn:(fn.name == "runtime.NumGoroutine")=false):Callable P g:=⟨fn,hf,hn,by rw [hb];rfl⟩
theorem pure_of (hG:TyOk P G.tys) {g:FuncId} {fn:Func} {c:Code} (hf:P.funcs[g]? =some fn) (hb:fn.body=some c) (hn:(fn.name == "runtime.NumGoroutine")=false)
 {args:List AV} {K:AV→Prop} (hl:args.length≤fn.ntmps) (h:dz P c ⟨fn.ntmps,0,initRegs args,[]⟩ (finP G fn.results.toList K)):PureP P g args K:=by
 refine ⟨dy hf hb hn,fun w F vs hgw hbd hr=>calls_of_wp hf hb ?_⟩
 let C:Ctx:=⟨w,fun _=>False,Env.nil,F⟩
 have M:Mem C [] w F Env.nil:=⟨⟨rfl,fun o b ho=>by simp at ho,fun o o' b ho=>by unfold ap at ho;simp at ho⟩,⟨rfl,rfl,rfl,Nat.le_refl _,fun _ _ _=>rfl⟩,fun o b ho=>by unfold ap at ho;simp at ho,fun b hb=>hb,hbd,fun b hb=>.inl hb,aH.refl _,⟨hgw,fun b h=>h.elim⟩⟩
 have hS:=init_sat (C:=C) M rfl hr hl
 refine wp_mono (h.out C _ w F Env.nil hS) ?_
 rintro ex a' w' ⟨S',F',e',hq,hs⟩
 have fin:resS G S' fn.results.toList (fun r=>purR S'.heap r K)→a'.defers=[]∧ ∃v,(results fn a'.tmps).run P w'= .ok v w'∧(∃r x F'',Ending.returned v= .returned x∧K r∧ch w' F'' Env.nil r x∧(∀b,F b→F'' b)∧(∀b,F'' b→F b∨w.heap.size≤b)∧(∀b,F'' b→b<w'.heap.size)∧bV w w' (fun _=>False)):=by
  intro hres
  obtain ⟨r,x,hk,hrep,hrun⟩:=resS_sound hG hs.here fn hres
  refine ⟨hs.defers,x,hrun,?_⟩
  have key: ∃r' F'' H'',K r'∧Mem C H'' w' F'' e'∧ch w' F'' Env.nil r' x:=by
   unfold purR at hk
   split at hk
   ·rename_i us
    obtain ⟨xs,rfl,h1,h2⟩:=hrep.tup_inv
    obtain ⟨us',F1,hk,L,M1,l1,r1⟩:=purAs_sound us (Froze.refl _) hs.mem (fun j=>xs.getD j undef) h2 hk
    exact ⟨_,F1,_,hk,M1,.tup (by rw [l1];exact h1) r1⟩
   ·obtain ⟨r',F1,hk,L,M1,r1⟩:=purA_sound (Froze.refl _) hs.mem hrep hk
    exact ⟨r',F1,_,hk,M1,r1⟩
  obtain ⟨r',F'',H'',hk',M',hr'⟩:=key
  refine ⟨r',x,F'',rfl,hk',hr',M'.sub,fun b hb=> ?_,M'.bound,⟨M'.mod.os,M'.mod.tape,M'.mod.output,M'.mod.size,fun b hb _=>M'.mod.block b hb (fun h=>h)⟩⟩
  rcases M'.fresh b hb with h|h|h
  ·exact .inl h
  ·exact .inr h
  ·exact h.elim
 cases ex with
 |normal=>exact fin hq
 |ret=>exact fin hq
 |_=>exact hq.elim
theorem call_of (hG:TyOk P G.tys) {g:FuncId} {fn:Func} {c:Code} (hf:P.funcs[g]? =some fn) (hb:fn.body=some c) (hn:(fn.name == "runtime.NumGoroutine")=false)
 {H:List Ob} {args:List AV} {K:AV→List Ob→Prop} (hl:args.length≤fn.ntmps) (h:dz P c ⟨fn.ntmps,H.length,initRegs args,H⟩ (finC G fn.results.toList K)):du P g H args K:=by
 refine ⟨dy hf hb hn,fun C0 w F e vs M0 hr=>calls_of_wp hf hb ?_⟩
 let C:Ctx:=⟨w,fun b=> ∃o,ap e H o b,e,F⟩
 have M:Mem C H w F e:=⟨M0.heap,⟨rfl,rfl,rfl,Nat.le_refl _,fun _ _ _=>rfl⟩,fun o b ho=>.inr ⟨o,ho⟩,fun b hb=>hb,M0.bound,fun b hb=>.inl hb,aH.refl _,⟨M0.gw,fun b ⟨o,ho⟩=>M0.gn ho⟩⟩
 have hS:=init_sat (C:=C) M M0.heap.len hr hl
 refine wp_mono (h.out C _ w F e hS) ?_
 rintro ex a' w' ⟨S',F',e',hq,hs⟩
 have fin:resS G S' fn.results.toList (fun r=>K r S'.heap)→a'.defers=[]∧ ∃v,(results fn a'.tmps).run P w'= .ok v w'∧(∃r x H' F' e',Ending.returned v= .returned x∧K r H'∧Mem C0 H' w' F' e'∧ch w' F' e' r x∧aH e e'∧bS w F w' F'):=by
  intro hres
  obtain ⟨r,x,hk,hrep,hrun⟩:=resS_sound hG hs.here fn hres
  have M':=hs.mem
  have old: ∀b,(∃o,ap e H o b)→C0.w0.heap.size≤b∨C0.own0 b:=fun b ⟨o,ho⟩=>M0.ours o b ho
  refine ⟨hs.defers,x,hrun,r,x,S'.heap,F',e',rfl,hk,⟨M'.heap,⟨M'.mod.os.trans M0.mod.os,M'.mod.tape.trans M0.mod.tape,M'.mod.output.trans M0.mod.output,Nat.le_trans M0.mod.size M'.mod.size,fun b hb hno=> ?_⟩,fun o b ho=> ?_,fun b hb=>M'.sub b (M0.sub b hb),M'.bound,fun b hb=> ?_,M0.env.trans M'.env,M0.g⟩,hrep,M'.env,⟨M'.sub,fun b hb=> ?_⟩⟩
  ·rw [M'.mod.block b (Nat.lt_of_lt_of_le hb M0.mod.size) (fun h=> ?_)]
   ·exact M0.mod.block b hb hno
   ·rcases old b h with k|k
    ·omega
    ·exact hno k
  ·rcases M'.ours o b ho with k|k
   ·exact .inl (Nat.le_trans M0.mod.size k)
   ·exact old b k
  ·rcases M'.fresh b hb with k|k|k
   ·exact M0.fresh b k
   ·exact .inr (.inl (Nat.le_trans M0.mod.size k))
   ·exact .inr (old b k)
  ·exact M'.mod.block b (M0.bound b hb) (fun ⟨o,ho⟩=>ho.notF M0.heap hb)
 cases ex with
 |normal=>exact fin hq
 |ret=>exact fin hq
 |_=>exact hq.elim
end
end Go.Ab
namespace Go.Ab
theorem aq.of_facts {P:Program} {t:TypeId} {ti:TI} (d:TypeDesc) (hd:P.underlying t=some d) (hf:ti.u.Fits d) (i:TypeInfo) (hi:P.info? t=some i) (hs:i.size=ti.size) (hb:i.bytes=ti.bytes) (z:Value) (hz:i.zero=some z) (hzc:z.cells.toList=ti.zero)
 (hp:(!ti.plain||(!P.stoodInHeld t&& !P.eqGuardType P.depth t))=true) (hc:(!ti.conc||P.concrete t)=true) (hl:ti.zero.length=ti.size)
 (hk:(match ti.u with| .struct fs=>fs.all (fun f=>(P.info? f.2).isSome)|_=>true)=true):aq P t ti where
 und:=⟨d,hd,hf⟩
 info:=⟨i,hi,hs,hb,z,hz,hzc⟩
 plain:=fun h=>by rw [h] at hp;simpa using hp
 conc:=fun h=>by rw [h] at hc;simpa using hc
 zlen:=hl
 kids:=fun fs h f hfm=>by
  rw [h] at hk
  have:=List.all_eq_true.1 hk f hfm
  exact Option.isSome_iff_exists.1 this
def TyOkFrom (P:Program):Nat→Tys→Prop
 |_,[]=>True
 |n,none::r=>TyOkFrom P (n+1) r
 |n,some ti::r=>aq P n ti∧TyOkFrom P (n+1) r
theorem tyOk_from {P:Program}: ∀(G:Tys) (n:Nat),TyOkFrom P n G→ ∀(t:Nat) ti,G[t]? =some (some ti)→aq P (n+t) ti
 |[],n,_,t,ti,h=>by simp at h
 |none::r,n,hG,t,ti,h=>by
  cases t with
  |zero=>simp at h
  |succ t=>have:=tyOk_from r (n+1) hG t ti (by simpa using h);rwa [Nat.add_assoc,Nat.add_comm 1 t] at this
 |some x::r,n,hG,t,ti,h=>by
  cases t with
  |zero=>simp at h;subst h;exact hG.1
  |succ t=>have:=tyOk_from r (n+1) hG.2 t ti (by simpa using h);rwa [Nat.add_assoc,Nat.add_comm 1 t] at this
theorem tyOk_of {P:Program} {G:Tys} (h:TyOkFrom P 0 G):TyOk P G:=fun t ti ht=>by
 have:=tyOk_from G 0 h t ti ht
 rwa [Nat.zero_add] at this
end Go.Ab
namespace Go.Ab
set_option linter.unusedVariables false
set_option linter.unusedSimpArgs false
mutual
def within (m:Nat):AV→Bool
 | .ptr o _=>Nat.blt o m
 | .row o _=>Nat.blt o m
 | .rptr o _ _ _ _=>Nat.blt o m
 | .vw o _ _ _ _=>Nat.blt o m
 | .fn _ a b=>withins m a&&withins m b
 | .ifc _ x=>within m x
 | .agg cs=>withins m cs
 | .tup cs=>withins m cs
 | .mp o=>Nat.blt o m
 |_=>true
def withins (m:Nat):List AV→Bool
 |[]=>true
 |x::r=>within m x&&withins m r
end
def withinOb (m:Nat):Ob→Bool
 | .var _ cs=>withins m cs
 |_=>true
def withinObs (m:Nat):List Ob→Bool
 |[]=>true
 |x::r=>withinOb m x&&withinObs m r
def Env.cut (e:Env) (m:Nat):Env:= {e with len:=m}
section
variable {C:Ctx} {S:St} {a:Act} {H:List Ob} {w:World} {F:Nat→Prop} {e:Env} {m:Nat}
theorem blt_lt {a b:Nat} (h:Nat.blt a b=true):a<b:=by simpa [Nat.blt_eq] using h
mutual
theorem within_cut: ∀(s:AV) (x:Value),within m s=true→ch w F e s x→ch w F (e.cut m) s x
 | .v y,x,_,h=>by rw [h.v_inv];exact .v
 | .sl xs,x,_,h=>by cases h with|sl sz a vals hc hA hsz hone hcell hrep=>exact .sl sz a vals hc hA hsz hone hcell hrep
 | .slc xs,x,_,h=>by cases h with|slc hc h=>cases h with|sl sz a vals hc2 hA hsz hone hcell hrep=>exact .slc hc (.sl sz a vals hc2 hA hsz hone hcell hrep)
 | .ptr o off,x,hp,h=>by have hlt:o<m:=blt_lt (by simpa [within] using hp);cases h with|ptr hl=>exact .ptr (e:=e.cut m) hlt
 | .row o n,x,hp,h=>by
   have hlt:o<m:=blt_lt (by simpa [within] using hp)
   cases h with
   |row hl hn hv=>exact .row (e:=e.cut m) hlt hn hv
   |rowold hl hn=>exact .rowold (e:=e.cut m) hlt hn
 | .rptr o n sz i off,x,hp,h=>by
   have hlt:o<m:=blt_lt (by simpa [within] using hp)
   cases h with
   |rptr hl hn hv=>exact .rptr (e:=e.cut m) hlt hn hv
   |rptrold hl hn=>exact .rptrold (e:=e.cut m) hlt hn
 | .vw o n sz lo hi,x,hp,h=>by
   have hlt:o<m:=blt_lt (by simpa [within] using hp)
   cases h with
   |vw hl hn hv h1 h2 h3 h4=>exact .vw (e:=e.cut m) hlt hn hv h1 h2 h3 h4
   |vwold hl hn=>exact .vwold (e:=e.cut m) hlt hn
 | .mp o,x,hp,h=>by have hlt:o<m:=blt_lt (by simpa [within] using hp);cases h with|mp hl=>exact .mp (e:=e.cut m) hlt
 | .eptr cs,x,_,h=>by cases h with|eptr a vals hF ha hcell hrep=>exact .eptr a vals hF ha hcell hrep
 | .fn f az bs,x,hp,h=>by
   simp only [within,Bool.and_eq_true] at hp
   cases h with
   | @fn _ _ _ _ fs cs h1 h2 r1 r2=>exact .fn h1 h2 (withins_cut az _ hp.1 r1) (withins_cut bs _ hp.2 r2)
 | .ifc t y,x,hp,h=>by
   obtain ⟨z,rfl,hz⟩:=h.ifc_inv
   exact .ifc (within_cut y z (by simpa [within] using hp) hz)
 | .agg cs,x,hp,h=>by
   obtain ⟨vs,rfl,h1,h2⟩:=h.agg_inv
   exact .agg h1 (withins_cut cs _ (by simpa [within] using hp) h2)
 | .tup cs,x,hp,h=>by
   obtain ⟨vs,rfl,h1,h2⟩:=h.tup_inv
   exact .tup h1 (withins_cut cs _ (by simpa [within] using hp) h2)
 | .dead,x,_,_=>.dead
theorem withins_cut: ∀(cs:List AV) (f:Nat→Value),withins m cs=true→(∀(j:Nat) s,cs[j]? =some s→ch w F e s (f j))→ ∀(j:Nat) s,cs[j]? =some s→ch w F (e.cut m) s (f j)
 |[],f,_,_,j,s,hj=>by simp at hj
 |c::r,f,hp,h,j,s,hj=>by
  simp only [withins,Bool.and_eq_true] at hp
  cases j with
  |zero=>simp at hj;subst hj;exact within_cut c (f 0) hp.1 (h 0 c rfl)
  |succ j=>exact withins_cut r (fun q=>f (q+1)) hp.2 (fun q s hq=>h (q+1) s (by simpa using hq)) j s (by simpa using hj)
end
theorem withinObs_get {l:List Ob} (h:withinObs m l=true): ∀(o:Nat) b,l[o]? =some b→withinOb m b=true:=by
 induction l with
 |nil=>intro o b hb;simp at hb
 |cons x r ih=>
  intro o b hb
  simp only [withinObs,Bool.and_eq_true] at h
  cases o with
  |zero=>simp at hb;subst hb;exact h.1
  |succ o=>exact ih h.2 o b (by simpa using hb)
theorem Mem.cut (M:Mem C H w F e) (hm:m≤H.length) (h0:C.e0.len≤m) (hs:withinObs m (H.take m)=true):Mem C (H.take m) w F (e.cut m):=by
 have hget: ∀(o:Nat) b,(H.take m)[o]? =some b→o<m∧H[o]? =some b:=by
  intro o b hb
  have hlt:o<m:=by
   have:=(List.getElem?_eq_some_iff.1 hb).1
   rw [List.length_take] at this
   omega
  rw [List.getElem?_take_of_lt hlt] at hb
  exact ⟨hlt,hb⟩
 have hown: ∀o b,ap (e.cut m) (H.take m) o b→ap e H o b:=by
  intro o b ho
  unfold ap at ho⊢
  cases hc:(H.take m)[o]? with
  |none=>rw [hc] at ho;exact ho.elim
  |some x=>
   rw [hc] at ho
   rw [(hget o x hc).2]
   exact ho
 refine ⟨⟨by simp [Env.cut];omega,fun o b hb=> ?_,fun o o' b h1 h2=>M.heap.one _ _ _ (hown _ _ h1) (hown _ _ h2)⟩,M.mod,fun o b ho=>M.ours o b (hown _ _ ho),M.sub,M.bound,M.fresh,⟨h0,M.env.blk,M.env.row⟩,M.g⟩
 obtain ⟨hlt,hb'⟩:=hget o b hb
 have hob:=M.heap.ob o b hb'
 have hsc:=withinObs_get hs o b hb
 cases b with
 |var T cs=>
  obtain ⟨hF,vs,h1,h2,h3⟩:=hob
  exact ⟨hF,vs,h1,h2,withins_cut cs _ (by simpa [withinOb] using hsc) h3⟩
 |row el sz xs=>exact hob
 |frz sz xs=>exact hob
 |ext R=>exact hob
 |gone=>trivial
noncomputable def ab (l:List (Nat×AV)):Nat→AV:=fun t=>match l with
 |[]=>.dead
 |p::r=> @Bool.rec (fun _=>AV) (ab r t) p.2 (Nat.beq p.1 t)
theorem ofRegs_cases (l:List (Nat×AV)) (t:Nat):ab l t= .dead∨ ∃p∈l,p.1=t∧ab l t=p.2:=by
 induction l with
 |nil=>exact .inl rfl
 |cons p r ih=>
  unfold ab
  cases hb:Nat.beq p.1 t with
  |true=>exact .inr ⟨p,List.mem_cons_self ..,Nat.eq_of_beq_eq_true hb,rfl⟩
  |false=>
   rcases ih with h|⟨q,hq,h1,h2⟩
   ·exact .inl h
   ·exact .inr ⟨q,List.mem_cons_of_mem _ hq,h1,h2⟩
def Keeps (S:St):List (Nat×AV)→Prop
 |[]=>True
 |p::r=>S.regs p.1=p.2∧Keeps S r
theorem weak_nil (t el sz:Nat) (ht:S.regs t= .v (.slice none 0 0)):bl S ⟨S.n,S.base,upd S.regs t (.row S.heap.length 0),S.heap++[.row el sz []]⟩:=by
 refine ⟨fun C a w F e h=> ?_⟩
 have hr:cL w F el sz [] (.slice none 0 0):=⟨fun i cs hi=>by simp at hi,.inl ⟨rfl,rfl⟩⟩
 have M:=h.mem.pushRow (x:= .slice none 0 0) (xs:=[]) (bV.refl w _) hr (fun b hb=>by cases hb)
 refine ⟨F,e.pushRow 0 (.slice none 0 0),h.defers,h.size,h.base,fun s=> ?_,M⟩
 simp only
 by_cases hs:s=t
 ·subst hs
  rw [ba]
  have hv:=h.regs s
  rw [ht] at hv
  rw [hv.v_inv]
  have hlt:S.heap.length<(e.pushRow 0 (.slice none 0 0)).len:=by show S.heap.length<e.len+1;rw [h.mem.heap.len];omega
  refine .row hlt ?_ ?_
  ·simp only [Env.pushRow];rw [←h.mem.heap.len,ba]
  ·simp only [Env.pushRow];rw [←h.mem.heap.len,ba]
 ·rw [cj _ _ _ hs]
  exact (h.regs s).mono (bS.refl w F) (aH.pushRow e _ _)
end
end Go.Ab
namespace Go.Ab
set_option linter.unusedVariables false
set_option linter.unusedSimpArgs false
def finE (G:Gm) (rs:List ResultVar) (el sz:Nat) (K:List (List AV)→Prop) (x:Exit) (S:St):Prop:=
 match x with
 | .normal=>resS G S rs (rowE S el sz K)
 | .ret=>resS G S rs (rowE S el sz K)
 |_=>False
 where
 rowE (S:St) (el sz:Nat) (K:List (List AV)→Prop) (r:AV):Prop:=
  match r with
  | .row o n=>(match S.heap[o]? with|some (.row el' sz' ys)=>Chk (Nat.beq el' el&&Nat.beq sz' sz)<|Need (n=ys.length)<|K ys|_=>False)
  | .vw o n s lo hi=>(match S.heap[o]? with|some (.row el' sz' ys)=>Chk (Nat.beq el' el&&Nat.beq sz' sz)<|Need (lo=0∧n=ys.length)<|K (ys.take hi)|_=>False)
  | .v (.slice none 0 0)=>K []
  |_=>False
section
variable {P:Program} {G:Gm} {C:Ctx} {S:St} {a:Act} {H:List Ob} {w w':World} {F F':Nat→Prop} {e e':Env}
theorem cL.part {el sz:Nat} {xs:List (List AV)} {b c k:Nat} (h:cL w F el sz xs (.slice (some ⟨b,0,none⟩) xs.length c)) (hk:k≤xs.length):cL w F el sz (xs.take k) (.slice (some ⟨b,0,none⟩) k c):=by
 obtain ⟨hsz,h⟩:=h
 have hg: ∀(i:Nat) cs,(xs.take k)[i]? =some cs→xs[i]? =some cs:=by
  intro i cs hi
  have hlt:i<k:=by have:=(List.getElem?_eq_some_iff.1 hi).1;rw [List.length_take] at this;omega
  rwa [List.getElem?_take_of_lt hlt] at hi
 refine ⟨fun i cs hi=>hsz i cs (hg i cs hi),?_⟩
 rcases h with ⟨_,hv⟩|⟨b',c',vs,hv,hF,hb,hvs,hle,hmx,hrep⟩
 ·cases hv
 ·injection hv with hv _ hc
  injection hv with hv
  injection hv with hv _ _
  subst hv hc
  refine .inr ⟨b,c,vs,?_,hF,hb,hvs,?_,hmx,fun i cs j s hi hj=>hrep i cs j s (hg i cs hi) hj⟩
  ·rw [List.length_take,Nat.min_eq_left hk]
  ·rw [List.length_take];omega
theorem rowE_sound {el sz:Nat} {K:List (List AV)→Prop} (M:Mem C S.heap w F e) {r:AV} {x:Value} (hr:ch w F e r x) (h:finE.rowE S el sz K r):
 ∃ys,K ys∧cL w F el sz ys x∧ ∀b,x.ownBlock=some b→C.w0.heap.size≤b∨C.own0 b:=by
 unfold finE.rowE at h
 split at h
 ·rename_i o n
  split at h
  case h_2=>exact h.elim
  rename_i el' sz' ys ho
  have hh:=h.elim
  clear h
  obtain ⟨hq,⟨hn,hK⟩⟩:=hh
  simp only [Bool.and_eq_true] at hq
  obtain rfl:=Nat.eq_of_beq_eq_true hq.1
  obtain rfl:=Nat.eq_of_beq_eq_true hq.2
  obtain ⟨hrl,hown⟩:=M.heap.ob o _ ho
  cases hr with
  |rowold _ hn2=>omega
  |row hl hn2 hv=>
   rw [←hv]
   exact ⟨ys,hK,hown,fun b hb=>M.ours o b (own_block ho M hb)⟩
 ·rename_i o n s lo hi
  split at h
  case h_2=>exact h.elim
  rename_i el' sz' ys ho
  have hh:=h.elim
  clear h
  obtain ⟨hq,⟨⟨hlo,hn⟩,hK⟩⟩:=hh
  simp only [Bool.and_eq_true] at hq
  obtain rfl:=Nat.eq_of_beq_eq_true hq.1
  obtain rfl:=Nat.eq_of_beq_eq_true hq.2
  subst hlo
  obtain ⟨hrl,hown⟩:=M.heap.ob o _ ho
  cases hr with
  |vwold _ hn2=>omega
  | @vw _ _ _ _ _ _ b m c off hl hn2 hv hle hhi hpos hoff=>
    obtain ⟨hm,hsz,vs,hb,hvs,hcap,hmx,hrep⟩:=row_block M ho hv
    have hoff0:off=0:=by have:=hoff (by omega);simpa using this
    subst hoff0
    subst hm
    rw [hv] at hown
    refine ⟨ys.take hi,hK,?_,fun b' hb'=> ?_⟩
    ·have:=hown.part (k:=hi) (by omega)
     simpa using this
    ·simp only [Value.ownBlock,Option.some.injEq] at hb'
     subst hb'
     exact M.ours o b (by unfold ap;rw [ho];exact ⟨_,_,hv⟩)
 ·have:=hr.v_inv
  subst this
  exact ⟨[],h,⟨fun i cs hi=>by simp at hi,.inl ⟨rfl,rfl⟩⟩,fun b hb=>by cases hb⟩
 ·exact h.elim
theorem fresh_of (hG:TyOk P G.tys) {g:FuncId} {fn:Func} {c:Code} (hf:P.funcs[g]? =some fn) (hb:fn.body=some c) (hn:(fn.name == "runtime.NumGoroutine")=false)
 {args:List AV} {el sz:Nat} {K:List (List AV)→Prop} (hl:args.length≤fn.ntmps) (h:dz P c ⟨fn.ntmps,0,initRegs args,[]⟩ (finE G fn.results.toList el sz K)):FreshP P g args el sz K:=by
 refine ⟨dy hf hb hn,fun w F vs hgw hbd hr=>calls_of_wp hf hb ?_⟩
 let C:Ctx:=⟨w,fun _=>False,Env.nil,F⟩
 have M:Mem C [] w F Env.nil:=⟨⟨rfl,fun o b ho=>by simp at ho,fun o o' b ho=>by unfold ap at ho;simp at ho⟩,⟨rfl,rfl,rfl,Nat.le_refl _,fun _ _ _=>rfl⟩,fun o b ho=>by unfold ap at ho;simp at ho,fun b hb=>hb,hbd,fun b hb=>.inl hb,aH.refl _,⟨hgw,fun b h=>h.elim⟩⟩
 have hS:=init_sat (C:=C) M rfl hr hl
 refine wp_mono (h.out C _ w F Env.nil hS) ?_
 rintro ex a' w' ⟨S',F',e',hq,hs⟩
 have fin:resS G S' fn.results.toList (finE.rowE S' el sz K)→a'.defers=[]∧ ∃v,(results fn a'.tmps).run P w'= .ok v w'∧(∃ys x F'',Ending.returned v= .returned x∧K ys∧cL w' F'' el sz ys x∧(∀b,x.ownBlock=some b→w.heap.size≤b)∧(∀b,F b→F'' b)∧(∀b,F'' b→F b∨w.heap.size≤b)∧(∀b,F'' b→b<w'.heap.size)∧bV w w' (fun _=>False)):=by
  intro hres
  obtain ⟨r,x,hk,hrep,hrun⟩:=resS_sound hG hs.here fn hres
  have M':=hs.mem
  obtain ⟨ys,hK,hown,hblk⟩:=rowE_sound M' hrep hk
  refine ⟨hs.defers,x,hrun,ys,x,F',rfl,hK,hown,fun b hb=> ?_,M'.sub,fun b hb=> ?_,M'.bound,⟨M'.mod.os,M'.mod.tape,M'.mod.output,M'.mod.size,fun b hb _=>M'.mod.block b hb (fun h=>h)⟩⟩
  ·rcases hblk b hb with h|h
   ·exact h
   ·exact h.elim
  ·rcases M'.fresh b hb with h|h|h
   ·exact .inl h
   ·exact .inr h
   ·exact h.elim
 cases ex with
 |normal=>exact fin hq
 |ret=>exact fin hq
 |_=>exact hq.elim
theorem eat_of (hG:TyOk P G.tys) {g:FuncId} {fn:Func} {c:Code} (hf:P.funcs[g]? =some fn) (hb:fn.body=some c) (hn:(fn.name == "runtime.NumGoroutine")=false)
 {args:List AV} {el sz:Nat} {xs:List (List AV)} {K:List (List AV)→Prop} (hl:args.length+1≤fn.ntmps) (h:dz P c ⟨fn.ntmps,1,initRegs (.row 0 xs.length::args),[.row el sz xs]⟩ (finE G fn.results.toList el sz K)):EatP P g el sz xs args K:=by
 refine ⟨dy hf hb hn,fun w F v vs hgw hgn hbd hown hr=>calls_of_wp hf hb ?_⟩
 let e1:Env:=⟨1,fun _=>0,fun _=>xs.length,fun _=>v⟩
 let C:Ctx:=⟨w,fun b=>v.ownBlock=some b,e1,F⟩
 have hOw: ∀o b,ap e1 [.row el sz xs] o b→v.ownBlock=some b:=by
  intro o b ho
  unfold ap at ho
  cases o with
  |zero=>
   simp at ho
   obtain ⟨n,c,hv⟩:=ho
   have hv:v=_:=hv
   rw [hv];rfl
  |succ o=>simp at ho
 have M:Mem C [.row el sz xs] w F e1:=by
  refine ⟨⟨rfl,fun o b ho=> ?_,fun o o' b h1 h2=> ?_⟩,⟨rfl,rfl,rfl,Nat.le_refl _,fun _ _ _=>rfl⟩,fun o b ho=>.inr (hOw o b ho),fun b hb=>hb,hbd,fun b hb=>.inl hb,aH.refl _,⟨hgw,hgn⟩⟩
  ·cases o with
   |zero=>simp at ho;subst ho;exact ⟨rfl,hown⟩
   |succ o=>simp at ho
  ·have hz: ∀o,ap e1 [.row el sz xs] o b→o=0:=by
    intro o ho
    cases o with
    |zero=>rfl
    |succ o=>unfold ap at ho;simp at ho
   rw [hz o h1,hz o' h2]
 have hsl: ∃A' m cc,v= .slice A' m cc:=by
  rcases hown.2 with ⟨_,hv'⟩|⟨b,cc,vs,hv',_⟩
  ·exact ⟨_,_,_,hv'⟩
  ·exact ⟨_,_,_,hv'⟩
 have hr1:bA w F e1 (.row 0 xs.length::args) (#[v]++vs):=by
  refine ⟨by have:=hr.1;simp;omega,fun j s hj=> ?_⟩
  cases j with
  |zero=>
   simp at hj
   subst hj
   obtain ⟨A',m,cc,rfl⟩:=hsl
   have:(#[Value.slice A' m cc]++vs).getD 0 undef= .slice A' m cc:=by
    rw [Array.getD_eq_getD_getElem?,Array.getElem?_append_left (by simp)];rfl
   rw [this]
   exact .row (e:=e1) (Nat.zero_lt_one) rfl rfl
  |succ j=>
   have:=hr.2 j s (by simpa using hj)
   have e2:(#[v]++vs).getD (j+1) undef=vs.getD j undef:=by
    rw [Array.getD_eq_getD_getElem?,Array.getElem?_append_right (by simp),Array.getD_eq_getD_getElem?];rfl
   rw [e2]
   exact this.env
 have hS:=init_sat (C:=C) M rfl hr1 (by simpa using hl)
 refine wp_mono (h.out C _ w F e1 hS) ?_
 rintro ex a' w' ⟨S',F',e',hq,hs⟩
 have fin:resS G S' fn.results.toList (finE.rowE S' el sz K)→a'.defers=[]∧ ∃y,(results fn a'.tmps).run P w'= .ok y w'∧(∃ys x F'',Ending.returned y= .returned x∧K ys∧cL w' F'' el sz ys x∧(∀b,x.ownBlock=some b→v.ownBlock=some b∨w.heap.size≤b)∧(∀b,F b→F'' b)∧(∀b,F'' b→F b∨w.heap.size≤b∨v.ownBlock=some b)∧(∀b,F'' b→b<w'.heap.size)∧bV w w' (fun b=>v.ownBlock=some b)):=by
  intro hres
  obtain ⟨r,x,hk,hrep,hrun⟩:=resS_sound hG hs.here fn hres
  have M':=hs.mem
  obtain ⟨ys,hK,hown',hblk⟩:=rowE_sound M' hrep hk
  refine ⟨hs.defers,x,hrun,ys,x,F',rfl,hK,hown',fun b hb=>(hblk b hb).symm,M'.sub,fun b hb=>M'.fresh b hb,M'.bound,⟨M'.mod.os,M'.mod.tape,M'.mod.output,M'.mod.size,fun b hb hn=>M'.mod.block b hb hn⟩⟩
 cases ex with
 |normal=>exact fin hq
 |ret=>exact fin hq
 |_=>exact hq.elim
end
end Go.Ab
namespace Go.Ab
set_option linter.unusedVariables false
set_option linter.unusedSimpArgs false
inductive Le (H:List Ob):AV→AV→Prop
 |same {a b} (h:a=b):Le H a b
 |dead {a}:Le H a .dead
 |nil:Le H (.v (.slice none 0 0)) (.sl [])
 |frz {o n sz xs} (h:H[o]? =some (.frz sz xs)) (hn:n=xs.length):Le H (.row o n) (.sl xs)
 |frzvw {o n sz lo hi xs ys} (h:H[o]? =some (.frz sz xs)) (hn:n=xs.length) (hy:ys=(xs.take hi).drop lo):Le H (.vw o n sz lo hi) (.sl ys)
inductive LeL (H:List Ob):List AV→List AV→Prop
 |nil:LeL H [] []
 |cons {a b r s} (h:Le H a b) (t:LeL H r s):LeL H (a::r) (b::s)
inductive LeR (H:List Ob):AV→AV→Prop
 |one {a b} (h:Le H a b):LeR H a b
 |agg {r s} (h:LeL H r s):LeR H (.agg r) (.agg s)
inductive LeO (H:List Ob):Ob→Ob→Prop
 |same {a b} (h:a=b):LeO H a b
 |var {T r s} (h:LeL H r s):LeO H (.var T r) (.var T s)
 |gone {a}:LeO H a .gone
inductive LeH (H:List Ob):List Ob→List Ob→Prop
 |nil:LeH H [] []
 |cons {a b r s} (h:LeO H a b) (t:LeH H r s):LeH H (a::r) (b::s)
section
variable {P:Program} {C:Ctx} {S:St} {H H':List Ob} {w:World} {F:Nat→Prop} {e:Env}
theorem Le.rep (M:HRep w F e H) {a b:AV} (h:Le H a b) {x:Value} (hr:ch w F e a x):ch w F e b x:=by
 cases h with
 |same h=>subst h;exact hr
 |dead=>exact .dead
 |nil=>
  rw [hr.v_inv]
  exact .sl 0 default (fun _ _=>undef) (Nat.le_refl 0) (fun h=>absurd rfl h) (fun i cs h=>by simp at h) (fun i cs h=>by simp at h) (fun i cs j s h=>by simp at h) (fun i cs j s h=>by simp at h)
 | @frz o n sz xs h hn=>
   obtain ⟨hrl,_,hsl⟩:=M.ob o _ h
   cases hr with
   |row hl hn' hv=>rw [←hv];exact hsl.env
   |rowold hl hn'=>omega
 | @frzvw o n sz lo hi xs ys h hn hy=>
   subst hy
   obtain ⟨hrl,hall,hsl⟩:=M.ob o _ h
   cases hr with
   |vwold hl hn'=>omega
   | @vw _ _ _ _ _ _ b m c off hl hn' hv hle hhi h0 hoff=>
     rw [hv] at hsl
     cases hsl with
     | @sl _ _ _ _ sz' a vals hc hA hsz hone hcell hrep=>
       have hlen:((xs.take hi).drop lo).length=hi - lo:=by rw [List.length_drop,List.length_take];omega
       have hxs:xs≠[]:=by intro hx;subst hx;simp at hn;omega
       obtain ⟨hA1,hA2,hA3⟩:=hA hxs
       injection hA1 with hA1
       subst hA1
       have key:ch w F e (.sl ((xs.take hi).drop lo)) (.slice (some ⟨b,off,none⟩) ((xs.take hi).drop lo).length (c - lo)):=by
        refine .sl sz' ⟨b,off,none⟩ (fun i j=>vals (lo+i) j) (by rw [hlen];omega) (fun hne=>⟨rfl,hA2,rfl⟩) (fun i cs hi'=> ?_) (fun i cs hi'=> ?_) (fun i cs j s hi' hj=> ?_) (fun i cs j s hi' hj=> ?_)
        all_goals
         have hlt:lo+i<hi:=by
          have:=(List.getElem?_eq_some_iff.1 hi').1
          rw [hlen] at this
          omega
         have hi2:xs[lo+i]? =some cs:=by
          rw [List.getElem?_drop,List.getElem?_take_of_lt hlt] at hi'
          exact hi'
        ·exact hsz _ _ hi2
        ·exact hone _ _ hi2
        ·have hss:sz'=sz:=by rw [←hsz _ _ hi2];exact hall _ _ hi2
         have:=hcell _ cs j s hi2 hj
         rw [hoff (by omega)]
         simp only at this⊢
         rw [Nat.zero_add,Nat.add_mul,hss] at this
         rw [hss]
         exact this
        ·exact hrep _ cs j s hi2 hj
       rw [hlen] at key
       exact key
theorem LeL.len {r s:List AV} (h:LeL H r s):r.length=s.length:=by
 induction h with
 |nil=>rfl
 |cons _ _ ih=>simp [ih]
theorem LeL.rep (M:HRep w F e H) {r s:List AV} (h:LeL H r s): ∀ {f:Nat→Value},(∀(j:Nat) a,r[j]? =some a→ch w F e a (f j))→ ∀(j:Nat) b,s[j]? =some b→ch w F e b (f j):=by
 induction h with
 |nil=>intro f _ j b hb;simp at hb
 |cons h t ih=>
  intro f hr j b hb
  cases j with
  |zero=>simp at hb;subst hb;exact h.rep M (hr 0 _ rfl)
  |succ j=>exact ih (f:=fun j=>f (j+1)) (fun j a ha=>hr (j+1) a (by simpa using ha)) j b (by simpa using hb)
theorem LeR.rep (M:HRep w F e H) {a b:AV} (h:LeR H a b) {x:Value} (hr:ch w F e a x):ch w F e b x:=by
 cases h with
 |one h=>exact h.rep M hr
 |agg h=>
  obtain ⟨vs,rfl,h1,h2⟩:=hr.agg_inv
  exact .agg (by rw [h1,h.len]) (h.rep M h2)
theorem LeH.len {r s:List Ob} (h:LeH H r s):r.length=s.length:=by
 induction h with
 |nil=>rfl
 |cons _ _ ih=>simp [ih]
theorem LeH.get {r s:List Ob} (h:LeH H r s): ∀(o:Nat) b,s[o]? =some b→ ∃a,r[o]? =some a∧LeO H a b:=by
 induction h with
 |nil=>intro o b hb;simp at hb
 |cons h t ih=>
  intro o b hb
  cases o with
  |zero=>simp at hb;subst hb;exact ⟨_,rfl,h⟩
  |succ o=>exact ih o b (by simpa using hb)
theorem LeO.owner {a b:Ob} (h:LeO H a b) {o k:Nat} (ha:H[o]? =some a) (hb:H'[o]? =some b) (hk:ap e H' o k):ap e H o k:=by
 unfold ap at*
 rw [hb] at hk
 rw [ha]
 cases h with
 |same h=>subst h;exact hk
 |var h=>exact hk
 |gone=>exact hk.elim
theorem Mem.le (M:Mem C H w F e) (h:LeH H H H'):Mem C H' w F e:=by
 have hown: ∀o b,ap e H' o b→ap e H o b:=by
  intro o b hb
  cases hx:H'[o]? with
  |none=>unfold ap at hb;rw [hx] at hb;exact hb.elim
  |some y=>
   obtain ⟨a,ha,hle⟩:=h.get o y hx
   exact hle.owner ha hx hb
 refine ⟨⟨by rw [M.heap.len,h.len],fun o y hy=> ?_,fun o o' b h1 h2=>M.heap.one _ _ _ (hown _ _ h1) (hown _ _ h2)⟩,M.mod,fun o b hb=>M.ours o b (hown o b hb),M.sub,M.bound,M.fresh,M.env,M.g⟩
 obtain ⟨a,ha,hle⟩:=h.get o y hy
 have:=M.heap.ob o a ha
 cases hle with
 |same h=>subst h;exact this
 |var h=>
  obtain ⟨hF,vs,h1,h2,h3⟩:=this
  exact ⟨hF,vs,h1,by rw [h2,h.len],h.rep M.heap h3⟩
 |gone=>trivial
inductive LeRs (S:St):List (Nat×AV)→Prop
 |nil:LeRs S []
 |cons {t b r} (h:LeR S.heap (S.regs t) b) (k:LeRs S r):LeRs S ((t,b)::r)
theorem LeRs.get {l:List (Nat×AV)} (h:LeRs S l): ∀p∈l,LeR S.heap (S.regs p.1) p.2:=by
 induction h with
 |nil=>intro p hp;cases hp
 |cons h k ih=>
  intro p hp
  rcases List.mem_cons.1 hp with rfl|hp
  ·exact h
  ·exact ih p hp
theorem weak_fin {n b:Nat} {l:List (Nat×AV)} {H:List Ob} (D:List Ob) (hn:S.n=n) (hb:S.base=b) (hbm:Nat.ble b H.length=true) (hh:LeH S.heap S.heap (H++D)) (hr:LeRs S l)
 (hs:withinObs H.length H=true) (hl:withins H.length (l.map (·.2))=true):bl S ⟨n,b,ab l,H⟩:=by
 refine ⟨fun C a w F e h=>⟨F,e.cut H.length,h.defers,h.size.trans hn,h.base.trans hb,fun t=> ?_,?_⟩⟩
 ·have hsc: ∀p∈l,within H.length p.2=true:=by
   clear hr
   induction l with
   |nil=>intro p hp;cases hp
   |cons q r ih=>
    intro p hp
    simp only [List.map_cons,withins,Bool.and_eq_true] at hl
    rcases List.mem_cons.1 hp with rfl|hp
    ·exact hl.1
    ·exact ih hl.2 p hp
  rcases ofRegs_cases l t with h1|⟨p,hp,rfl,h2⟩
  ·simp only;rw [h1];exact .dead
  ·simp only;rw [h2]
   exact within_cut p.2 _ (hsc p hp) ((hr.get p hp).rep h.mem.heap (h.regs p.1))
 ·have M:=h.mem.le hh
  have:=M.cut (m:=H.length) (by simp) (by rw [h.base,hb];exact Nat.le_of_ble_eq_true hbm) (by simpa using hs)
  simpa using this
theorem aK {el sz:Nat} {xs:List (List AV)} (o:Nat) (ho:S.heap[o]? =some (.row el sz xs)):bl S {S with heap:=S.heap.set o (.frz sz xs)}:=by
 refine ⟨fun C a w F e h=> ?_⟩
 obtain ⟨F',L,M',_,_⟩:=h.mem.freeze ho
 exact ⟨F',e,h.defers,h.size,h.base,fun t=>(h.regs t).mono L (aH.refl e),M'⟩
theorem dF {T:TypeId} {cs:List AV} (o j el sz:Nat) (ho:S.heap[o]? =some (.var T cs)) (hj:cs[j]? =some (.v (.slice none 0 0))):bl S {S with heap:=(S.heap.set o (.var T (cs.set j (.row S.heap.length 0))))++[.row el sz []]}:=by
 refine ⟨fun C a w F e h=> ?_⟩
 have hr:cL w F el sz [] (.slice none 0 0):=⟨fun i cs hi=>by simp at hi,.inl ⟨rfl,rfl⟩⟩
 have M:=h.mem.pushRow (x:= .slice none 0 0) (xs:=[]) (bV.refl w _) hr (fun b hb=>by cases hb)
 have E:=aH.pushRow e 0 (.slice none 0 0)
 have hlt:o<S.heap.length:=(List.getElem?_eq_some_iff.1 ho).1
 have ho':(S.heap++[Ob.row el sz []])[o]? =some (.var T cs):=by rw [List.getElem?_append_left hlt];exact ho
 have M2:=M.change (o:=o) (H':=(S.heap++[Ob.row el sz []]).set o (.var T (cs.set j (.row S.heap.length 0)))) (e':=e.pushRow 0 (.slice none 0 0)) (w':=w) (.var T (cs.set j (.row S.heap.length 0))) (by simpa using M.heap.len) (by simp) (fun o' hn=>by rw [List.getElem?_set_ne (Ne.symm hn)]) (List.getElem?_set_self (by rw [List.length_append];simp only [List.length_singleton];omega)) (aH.refl _) (fun o' _ _=>⟨rfl,rfl⟩) (bV.refl w _) ?_ ?_
 ·refine ⟨F,e.pushRow 0 (.slice none 0 0),h.defers,h.size,h.base,fun s=>(h.regs s).mono (bS.refl w F) E,?_⟩
  have:(S.heap++[Ob.row el sz []]).set o (.var T (cs.set j (.row S.heap.length 0)))=(S.heap.set o (.var T (cs.set j (.row S.heap.length 0))))++[.row el sz []]:=by
   rw [List.set_append_left _ _ hlt]
  rw [←this]
  exact M2
 ·obtain ⟨hF,vs,h1,h2,h3⟩:=M.heap.ob o _ ho'
  refine ⟨hF,vs,h1,by simpa using h2,fun i s hi=> ?_⟩
  by_cases hij:j=i
  ·subst hij
   have hjl:j<cs.length:=(List.getElem?_eq_some_iff.1 hj).1
   rw [List.getElem?_set_self hjl] at hi
   injection hi with hi
   subst hi
   have hv:=(h3 j _ hj).v_inv
   rw [hv]
   have hlt2:S.heap.length<(e.pushRow 0 (.slice none 0 0)).len:=by show S.heap.length<e.len+1;rw [h.mem.heap.len];omega
   refine .row hlt2 ?_ ?_
   ·simp only [Env.pushRow];rw [←h.mem.heap.len,ba]
   ·simp only [Env.pushRow];rw [←h.mem.heap.len,ba]
  ·rw [List.getElem?_set_ne hij] at hi
   exact h3 i s hi
 ·intro b hb
  unfold ap at hb⊢
  rw [ho']
  simp [show o<S.heap.length+1 by omega] at hb
  exact .inl hb
end
end Go.Ab
namespace Go.Ab
set_option linter.unusedVariables false
set_option linter.unusedSimpArgs false
def rn (ρ:List Nat) (i:Nat):Nat:=match ρ[i]? with|some o=>o|none=>i
mutual
def ren (ρ:List Nat):AV→AV
 | .ptr o off=>.ptr (rn ρ o) off
 | .row o n=>.row (rn ρ o) n
 | .rptr o n sz i off=>.rptr (rn ρ o) n sz i off
 | .vw o n sz lo hi=>.vw (rn ρ o) n sz lo hi
 | .fn f a b=>.fn f (rens ρ a) (rens ρ b)
 | .ifc t x=>.ifc t (ren ρ x)
 | .agg cs=>.agg (rens ρ cs)
 | .tup cs=>.tup (rens ρ cs)
 | .mp o=>.mp (rn ρ o)
 | .v x=>.v x
 | .sl xs=>.sl xs
 | .slc xs=>.slc xs
 | .eptr cs=>.eptr cs
 | .dead=>.dead
def rens (ρ:List Nat):List AV→List AV
 |[]=>[]
 |a::r=>ren ρ a::rens ρ r
end
def renO (ρ:List Nat):Ob→Ob
 | .var T cs=>.var T (rens ρ cs)
 |x=>x
def renH (ρ:List Nat):List Ob→List Ob
 |[]=>[]
 |a::r=>renO ρ a::renH ρ r
def putObs:List Nat→List Ob→List Ob→List Ob
 |o::r,x::s,H=>putObs r s (H.set o x)
 |_,_,H=>H
def getObs (H:List Ob):List Nat→List (Option Ob)
 |[]=>[]
 |o::r=>H[o]? ::getObs H r
def somes:List Ob→List (Option Ob)
 |[]=>[]
 |a::r=>some a::somes r
def distinct:List Nat→Bool
 |[]=>true
 |o::r=>(match memB r o with|true=>false|false=>true)&&distinct r
def allLt (n:Nat):List Nat→Bool
 |[]=>true
 |o::r=>Nat.blt o n&&allLt n r
theorem rens_length (ρ:List Nat): ∀(cs:List AV),(rens ρ cs).length=cs.length
 |[]=>rfl
 |c::r=>by simp [rens,rens_length ρ r]
structure EnvRn (ρ:List Nat) (e1 e2:Env):Prop where
 i1: ∀i,i<ρ.length→i<e1.len
 i2: ∀i,i<ρ.length→rn ρ i<e2.len
 blk: ∀i,i<ρ.length→e2.blk (rn ρ i)=e1.blk i
 rlen: ∀i,i<ρ.length→e2.rlen (rn ρ i)=e1.rlen i
 rowv: ∀i,i<ρ.length→e2.rowv (rn ρ i)=e1.rowv i
section
variable {P:Program} {C:Ctx} {H H':List Ob} {w w':World} {F F':Nat→Prop} {e e' e1 e2:Env} {ρ:List Nat}
mutual
theorem rep_ren (E:EnvRn ρ e1 e2): ∀(s:AV) (x:Value),within ρ.length s=true→(ch w F e1 s x↔ch w F e2 (ren ρ s) x)
 | .v y,x,_=>⟨fun h=>by rw [h.v_inv];exact .v,fun h=>by rw [h.v_inv];exact .v⟩
 | .sl xs,x,_=>⟨fun h=>by cases h with|sl sz a vals hc hA hsz hone hcell hrep=>exact .sl sz a vals hc hA hsz hone hcell hrep,fun h=>by simp only [ren] at h;cases h with|sl sz a vals hc hA hsz hone hcell hrep=>exact .sl sz a vals hc hA hsz hone hcell hrep⟩
 | .ptr o off,x,hp=>by
   have hlt:o<ρ.length:=blt_lt (by simpa [within] using hp)
   simp only [ren]
   constructor
   ·intro h;cases h with|ptr hl=>rw [←E.blk o hlt];exact .ptr (E.i2 o hlt)
   ·intro h;obtain ⟨_,rfl⟩:=h.ptr_inv;rw [E.blk o hlt];exact .ptr (E.i1 o hlt)
 | .row o n,x,hp=>by
   have hlt:o<ρ.length:=blt_lt (by simpa [within] using hp)
   simp only [ren]
   constructor
   ·intro h
    cases h with
    |row hl hn hv=>exact .row (E.i2 o hlt) (by rw [E.rlen o hlt];exact hn) (by rw [E.rowv o hlt];exact hv)
    |rowold hl hn=>exact .rowold (E.i2 o hlt) (by rw [E.rlen o hlt];exact hn)
   ·intro h
    cases h with
    |row hl hn hv=>exact .row (E.i1 o hlt) (by rw [←E.rlen o hlt];exact hn) (by rw [←E.rowv o hlt];exact hv)
    |rowold hl hn=>exact .rowold (E.i1 o hlt) (by rw [←E.rlen o hlt];exact hn)
 | .rptr o n sz i off,x,hp=>by
   have hlt:o<ρ.length:=blt_lt (by simpa [within] using hp)
   simp only [ren]
   constructor
   ·intro h
    cases h with
    |rptr hl hn hv=>exact .rptr (E.i2 o hlt) (by rw [E.rlen o hlt];exact hn) (by rw [E.rowv o hlt];exact hv)
    |rptrold hl hn=>exact .rptrold (E.i2 o hlt) (by rw [E.rlen o hlt];exact hn)
   ·intro h
    cases h with
    |rptr hl hn hv=>exact .rptr (E.i1 o hlt) (by rw [←E.rlen o hlt];exact hn) (by rw [←E.rowv o hlt];exact hv)
    |rptrold hl hn=>exact .rptrold (E.i1 o hlt) (by rw [←E.rlen o hlt];exact hn)
 | .vw o n sz lo hi,x,hp=>by
   have hlt:o<ρ.length:=blt_lt (by simpa [within] using hp)
   simp only [ren]
   constructor
   ·intro h
    cases h with
    |vw hl hn hv h1 h2 h3 h4=>exact .vw (E.i2 o hlt) (by rw [E.rlen o hlt];exact hn) (by rw [E.rowv o hlt];exact hv) h1 h2 h3 h4
    |vwold hl hn=>exact .vwold (E.i2 o hlt) (by rw [E.rlen o hlt];exact hn)
   ·intro h
    cases h with
    |vw hl hn hv h1 h2 h3 h4=>exact .vw (E.i1 o hlt) (by rw [←E.rlen o hlt];exact hn) (by rw [←E.rowv o hlt];exact hv) h1 h2 h3 h4
    |vwold hl hn=>exact .vwold (E.i1 o hlt) (by rw [←E.rlen o hlt];exact hn)
 | .slc xs,x,_=>⟨fun h=>by cases h with|slc hc h=>cases h with|sl sz a vals hc2 hA hsz hone hcell hrep=>exact .slc hc (.sl sz a vals hc2 hA hsz hone hcell hrep),fun h=>by simp only [ren] at h;cases h with|slc hc h=>cases h with|sl sz a vals hc2 hA hsz hone hcell hrep=>exact .slc hc (.sl sz a vals hc2 hA hsz hone hcell hrep)⟩
 | .mp o,x,hp=>by
   have hlt:o<ρ.length:=blt_lt (by simpa [within] using hp)
   simp only [ren]
   constructor
   ·intro h;cases h with|mp hl=>rw [←E.blk o hlt];exact .mp (E.i2 o hlt)
   ·intro h;cases h with|mp hl=>rw [E.blk o hlt];exact .mp (E.i1 o hlt)
 | .eptr cs,x,_=>⟨fun h=>by cases h with|eptr a vals hF ha hcell hrep=>exact .eptr a vals hF ha hcell hrep,fun h=>by simp only [ren] at h;cases h with|eptr a vals hF ha hcell hrep=>exact .eptr a vals hF ha hcell hrep⟩
 | .fn f az bs,x,hp=>by
   simp only [within,Bool.and_eq_true] at hp
   simp only [ren]
   constructor
   ·intro h
    cases h with
    | @fn _ _ _ _ fs cs h1 h2 r1 r2=>exact .fn (by rw [h1,rens_length]) (by rw [h2,rens_length]) ((reps_ren E az _ hp.1).1 r1) ((reps_ren E bs _ hp.2).1 r2)
   ·intro h
    cases h with
    | @fn _ _ _ _ fs cs h1 h2 r1 r2=>exact .fn (by rw [h1,rens_length]) (by rw [h2,rens_length]) ((reps_ren E az _ hp.1).2 r1) ((reps_ren E bs _ hp.2).2 r2)
 | .ifc t y,x,hp=>by
   simp only [ren]
   have:=fun z=>rep_ren E y z (by simpa [within] using hp)
   constructor
   ·intro h;obtain ⟨z,rfl,hz⟩:=h.ifc_inv;exact .ifc ((this z).1 hz)
   ·intro h;obtain ⟨z,rfl,hz⟩:=h.ifc_inv;exact .ifc ((this z).2 hz)
 | .agg cs,x,hp=>by
   simp only [ren]
   constructor
   ·intro h;obtain ⟨vs,rfl,h1,h2⟩:=h.agg_inv;exact .agg (by rw [h1,rens_length]) ((reps_ren E cs _ (by simpa [within] using hp)).1 h2)
   ·intro h;obtain ⟨vs,rfl,h1,h2⟩:=h.agg_inv;exact .agg (by rw [h1,rens_length]) ((reps_ren E cs _ (by simpa [within] using hp)).2 h2)
 | .tup cs,x,hp=>by
   simp only [ren]
   constructor
   ·intro h;obtain ⟨vs,rfl,h1,h2⟩:=h.tup_inv;exact .tup (by rw [h1,rens_length]) ((reps_ren E cs _ (by simpa [within] using hp)).1 h2)
   ·intro h;obtain ⟨vs,rfl,h1,h2⟩:=h.tup_inv;exact .tup (by rw [h1,rens_length]) ((reps_ren E cs _ (by simpa [within] using hp)).2 h2)
 | .dead,x,_=>⟨fun _=>.dead,fun _=>.dead⟩
theorem reps_ren (E:EnvRn ρ e1 e2): ∀(cs:List AV) (f:Nat→Value),withins ρ.length cs=true→((∀(j:Nat) s,cs[j]? =some s→ch w F e1 s (f j))↔ ∀(j:Nat) s,(rens ρ cs)[j]? =some s→ch w F e2 s (f j))
 |[],f,_=>⟨fun _ j s hj=>by simp [rens] at hj,fun _ j s hj=>by simp at hj⟩
 |c::r,f,hp=>by
  simp only [withins,Bool.and_eq_true] at hp
  have h1:=rep_ren E c (f 0) hp.1
  have h2:=reps_ren E r (fun j=>f (j+1)) hp.2
  constructor
  ·intro h j s hj
   cases j with
   |zero=>simp [rens] at hj;subst hj;exact h1.1 (h 0 c rfl)
   |succ j=>exact h2.1 (fun j s hj=>h (j+1) s (by simpa using hj)) j s (by simpa [rens] using hj)
  ·intro h j s hj
   cases j with
   |zero=>simp at hj;subst hj;exact h1.2 (h 0 _ rfl)
   |succ j=>exact h2.2 (fun j s hj=>h (j+1) s (by simpa [rens] using hj)) j s (by simpa using hj)
end
theorem memB_iff {l:List Nat} {o:Nat}:memB l o=true↔o∈l:=by
 unfold memB
 rw [List.any_eq_true]
 constructor
 ·rintro ⟨x,hx,h⟩;have:=Nat.eq_of_beq_eq_true h;subst this;exact hx
 ·intro h;exact ⟨o,h,by simp⟩
theorem distinct_inj: ∀ {l:List Nat},distinct l=true→ ∀(i j:Nat) o,l[i]? =some o→l[j]? =some o→i=j
 |[],_,i,j,o,hi,_=>by simp at hi
 |a::r,h,i,j,o,hi,hj=>by
  simp only [distinct,Bool.and_eq_true] at h
  have hn:a∉r:=by
   intro ha
   have:=memB_iff.2 ha
   rw [this] at h
   simp at h
  cases i with
  |zero=>
   cases j with
   |zero=>rfl
   |succ j=>simp at hi hj;subst hi;exact absurd (List.mem_of_getElem? hj) hn
  |succ i=>
   cases j with
   |zero=>simp at hi hj;subst hj;exact absurd (List.mem_of_getElem? hi) hn
   |succ j=>simp at hi hj;rw [distinct_inj h.2 i j o hi hj]
theorem allLt_get {n:Nat}: ∀ {l:List Nat},allLt n l=true→ ∀(i:Nat) o,l[i]? =some o→o<n
 |[],_,i,o,hi=>by simp at hi
 |a::r,h,i,o,hi=>by
  simp only [allLt,Bool.and_eq_true] at h
  cases i with
  |zero=>simp at hi;subst hi;exact blt_lt h.1
  |succ i=>exact allLt_get h.2 i o (by simpa using hi)
theorem getObs_get: ∀ {l:List Nat} {H0:List Ob},getObs H l=somes H0→ ∀(i:Nat) o,l[i]? =some o→ ∃x,H0[i]? =some x∧H[o]? =some x
 |[],_,_,i,o,hi=>by simp at hi
 |a::r,[],h,i,o,hi=>by simp [getObs,somes] at h
 |a::r,x::s,h,i,o,hi=>by
  simp only [getObs,somes,List.cons.injEq] at h
  cases i with
  |zero=>simp at hi;subst hi;exact ⟨x,rfl,h.1⟩
  |succ i=>exact getObs_get h.2 i o (by simpa using hi)
theorem putObs_length: ∀(l:List Nat) (L H:List Ob),(putObs l L H).length=H.length
 |[],L,H=>by cases L<;>simp [putObs]
 |a::r,[],H=>rfl
 |a::r,x::s,H=>by simp [putObs,putObs_length r s]
theorem putObs_other: ∀(l:List Nat) (L H:List Ob) (o:Nat),o∉l→(putObs l L H)[o]? =H[o]?
 |[],L,H,o,_=>by cases L<;>simp [putObs]
 |a::r,[],H,o,_=>rfl
 |a::r,x::s,H,o,h=>by
  simp only [List.mem_cons,not_or] at h
  rw [putObs,putObs_other r s _ o h.2,List.getElem?_set_ne (Ne.symm h.1)]
theorem putObs_get: ∀(l:List Nat) (L H:List Ob) (i:Nat) o x,distinct l=true→allLt H.length l=true→l[i]? =some o→L[i]? =some x→(putObs l L H)[o]? =some x
 |[],L,H,i,o,x,_,_,hi,_=>by simp at hi
 |a::r,[],H,i,o,x,_,_,_,hx=>by simp at hx
 |a::r,y::s,H,i,o,x,hd,hl,hi,hx=>by
  have hd0:=hd
  simp only [distinct,Bool.and_eq_true] at hd
  simp only [allLt,Bool.and_eq_true] at hl
  have hn:a∉r:=by
   intro ha
   have:=memB_iff.2 ha
   rw [this] at hd
   simp at hd
  cases i with
  |zero=>
   simp at hi hx
   subst hi hx
   rw [putObs,putObs_other r s _ _ hn,List.getElem?_set_self (blt_lt hl.1)]
  |succ i=>exact putObs_get r s _ i o x hd.2 (by simpa using hl.2) (by simpa using hi) (by simpa using hx)
theorem renH_get: ∀(H:List Ob) (i:Nat) x,H[i]? =some x→(renH ρ H)[i]? =some (renO ρ x)
 |[],i,x,h=>by simp at h
 |a::r,i,x,h=>by
  cases i with
  |zero=>simp at h;subst h;rfl
  |succ i=>exact renH_get r i x (by simpa using h)
theorem renH_length: ∀(H:List Ob),(renH ρ H).length=H.length
 |[]=>rfl
 |a::r=>by simp [renH,renH_length r]
theorem somes_length: ∀(H:List Ob),(somes H).length=H.length
 |[]=>rfl
 |a::r=>by simp [somes,somes_length r]
theorem getObs_length: ∀(l:List Nat),(getObs H l).length=l.length
 |[]=>rfl
 |a::r=>by simp [getObs,getObs_length r]
theorem du.use {g:FuncId} {H0 L:List Ob} {args0:List AV} {R:AV} (h:du P g H0 args0 fun r H'=>r=R∧H'.take L.length=L) {H:List Ob} {args:List AV} {K:AV→List Ob→Prop} (ρ:List Nat)
 (hd:distinct ρ=true) (hl:allLt H.length ρ=true) (hL:L.length=ρ.length) (hH:getObs H ρ=somes (renH ρ H0)) (ha:rens ρ args0=args)
 (w1:withins ρ.length args0=true) (w2:withinObs ρ.length H0=true) (w3:within ρ.length R=true) (w4:withinObs ρ.length L=true)
 (hk:K (ren ρ R) (putObs ρ (renH ρ L) H)):du P g H args K:=by
 refine ⟨h.call,fun C w F e vs M hr=> ?_⟩
 have hlen0:H0.length=ρ.length:=by have:=congrArg List.length hH;rw [getObs_length,somes_length,renH_length] at this;omega
 have rnof: ∀i,i<ρ.length→ρ[i]? =some (rn ρ i):=by
  intro i hi
  unfold rn
  rw [List.getElem?_eq_getElem hi]
 have rnlt: ∀i,i<ρ.length→rn ρ i<e.len:=by
  intro i hi
  rw [M.heap.len]
  exact allLt_get hl i _ (rnof i hi)
 have rninj: ∀i j,i<ρ.length→j<ρ.length→rn ρ i=rn ρ j→i=j:=by
  intro i j hi hj he
  exact distinct_inj hd i j _ (rnof i hi) (by rw [he];exact rnof j hj)
 let e0:Env:=⟨ρ.length,fun i=>e.blk (rn ρ i),fun i=>e.rlen (rn ρ i),fun i=>e.rowv (rn ρ i)⟩
 have E0:EnvRn ρ e0 e:=⟨fun i hi=>hi,rnlt,fun _ _=>rfl,fun _ _=>rfl,fun _ _=>rfl⟩
 let C0:Ctx:=⟨w,fun b=> ∃i,i<ρ.length∧ap e H (rn ρ i) b,e0,F⟩
 have hob: ∀i x,H0[i]? =some x→i<ρ.length∧H[rn ρ i]? =some (renO ρ x):=by
  intro i x hx
  have hi:i<ρ.length:=by rw [←hlen0];exact (List.getElem?_eq_some_iff.1 hx).1
  obtain ⟨y,hy,hz⟩:=getObs_get hH i _ (rnof i hi)
  rw [renH_get H0 i x hx] at hy
  injection hy with hy
  subst hy
  exact ⟨hi,hz⟩
 have hown0: ∀i b,ap e0 H0 i b→i<ρ.length∧ap e H (rn ρ i) b:=by
  intro i b hb
  unfold ap at hb⊢
  cases hx:H0[i]? with
  |none=>rw [hx] at hb;exact hb.elim
  |some x=>
   obtain ⟨hi,hz⟩:=hob i x hx
   rw [hx] at hb
   rw [hz]
   refine ⟨hi,?_⟩
   cases x with
   |var T cs=>exact hb
   |row el sz xs=>exact hb
   |frz sz xs=>exact hb
   |ext R=>exact hb
   |gone=>exact hb
 have M0:Mem C0 H0 w F e0:=by
  refine ⟨⟨hlen0.symm,fun i x hx=> ?_,fun i j b h1 h2=> ?_⟩,⟨rfl,rfl,rfl,Nat.le_refl _,fun _ _ _=>rfl⟩,fun i b hb=>.inr ⟨i,(hown0 i b hb).1,(hown0 i b hb).2⟩,fun _ h=>h,M.bound,fun b hb=>.inl hb,aH.refl _,⟨M.gw,fun b ⟨i,_,ho⟩=>M.gn ho⟩⟩
  ·obtain ⟨hi,hz⟩:=hob i x hx
   have:=M.heap.ob _ _ hz
   cases x with
   |var T cs=>
    obtain ⟨hF,us,h1,h2,h3⟩:=this
    exact ⟨hF,us,h1,by rw [h2,rens_length],(reps_ren (w:=w) (F:=F) E0 cs (fun j=>us.getD j undef) (by have:=withinObs_get w2 i _ hx;simpa [withinOb] using this)).2 h3⟩
   |row el sz xs=>exact this
   |frz sz xs=>exact this
   |ext R=>exact this
   |gone=>trivial
  ·obtain ⟨i1,o1⟩:=hown0 i b h1
   obtain ⟨i2,o2⟩:=hown0 j b h2
   exact rninj i j i1 i2 (M.heap.one _ _ _ o1 o2)
 have hr0:bA w F e0 args0 vs:=by
  subst ha
  exact ⟨by rw [hr.1,rens_length],(reps_ren (w:=w) (F:=F) E0 args0 (fun j=>vs.getD j undef) w1).2 hr.2⟩
 refine (h.run C0 w F e0 vs M0 hr0).mono ?_
 rintro en w' ⟨r,x,H',F',e1,rfl,⟨rfl,hLt⟩,M1,hrep,hE,hLat⟩
 have hkl:ρ.length≤H'.length:=by have:=congrArg List.length hLt;rw [List.length_take] at this;omega
 rw [hL] at hLt
 have Mc:Mem C0 L w' F' (e1.cut ρ.length):=by
  have:=M1.cut (m:=ρ.length) hkl (Nat.le_refl _) (by rw [hLt];exact w4)
  rwa [hLt] at this
 let pick {α:Type} (f g:Nat→α):Nat→α:=fun o=>match ρ.findIdx? (fun k=>k == o) with|some i=>f i|none=>g o
 have pick_rn: ∀ {α:Type} (f g:Nat→α) i,i<ρ.length→pick f g (rn ρ i)=f i:=by
  intro α f g i hi
  have:ρ.findIdx? (fun k=>k == rn ρ i)=some i:=by
   rw [List.findIdx?_eq_some_iff_getElem]
   refine ⟨hi,?_,fun j hj=> ?_⟩
   ·have:=rnof i hi
    rw [List.getElem?_eq_getElem hi] at this
    injection this with this
    simp [this]
   ·have h1:=rnof j (by omega)
    rw [List.getElem?_eq_getElem (by omega)] at h1
    injection h1 with h1
    intro h2
    simp only [beq_iff_eq] at h2
    rw [h1] at h2
    have:=rninj j i (by omega) hi h2
    omega
  simp only [pick,this]
 have pick_no: ∀ {α:Type} (f g:Nat→α) o,o∉ρ→pick f g o=g o:=by
  intro α f g o ho
  have:ρ.findIdx? (fun k=>k == o)=none:=by
   rw [List.findIdx?_eq_none_iff]
   intro k hk
   simp only [beq_eq_false_iff_ne]
   intro h;subst h;exact ho hk
  simp only [pick,this]
 have inρ: ∀o,o∈ρ→ ∃i,i<ρ.length∧o=rn ρ i:=by
  intro o ho
  obtain ⟨i,hi,rfl⟩:=List.getElem_of_mem ho
  refine ⟨i,hi,?_⟩
  have:=rnof i hi
  rw [List.getElem?_eq_getElem hi] at this
  injection this
 let e2:Env:=⟨e.len,e.blk,pick e1.rlen e.rlen,pick e1.rowv e.rowv⟩
 have E2:EnvRn ρ (e1.cut ρ.length) e2:=⟨fun i hi=>hi,rnlt,fun i hi=>(hE.blk i hi).symm,fun i hi=>pick_rn _ _ i hi,fun i hi=>pick_rn _ _ i hi⟩
 have hEe:aH e e2:=by
  refine ⟨Nat.le_refl _,fun _ _=>rfl,fun o ho=> ?_⟩
  by_cases hm:o∈ρ
  ·obtain ⟨i,hi,rfl⟩:=inρ o hm
   have:=hE.row i hi
   show e.rlen (rn ρ i)<pick e1.rlen e.rlen (rn ρ i)∨(pick e1.rlen e.rlen (rn ρ i)=e.rlen (rn ρ i)∧pick e1.rowv e.rowv (rn ρ i)=e.rowv (rn ρ i))
   rw [pick_rn _ _ i hi,pick_rn _ _ i hi]
   exact this
  ·exact .inr ⟨pick_no _ _ o hm,pick_no _ _ o hm⟩
 have hget: ∀i x,i<ρ.length→L[i]? =some x→(putObs ρ (renH ρ L) H)[rn ρ i]? =some (renO ρ x):=fun i x hi hx=>
  putObs_get ρ _ H i _ _ hd hl (rnof i hi) (renH_get L i x hx)
 have hgetno: ∀o,o∉ρ→(putObs ρ (renH ρ L) H)[o]? =H[o]? :=fun o ho=>putObs_other ρ _ H o ho
 have hown2: ∀i b,i<ρ.length→ap e2 (putObs ρ (renH ρ L) H) (rn ρ i) b→ap (e1.cut ρ.length) L i b:=by
  intro i b hi hb
  obtain ⟨x,hx⟩: ∃x,L[i]? =some x:=⟨_,List.getElem?_eq_getElem (by omega)⟩
  unfold ap at hb⊢
  rw [hget i x hi hx] at hb
  rw [hx]
  cases x with
  |var T cs=>have hb:e2.blk (rn ρ i)=b:=hb;rw [E2.blk i hi] at hb;exact hb
  |row el sz xs=>simp only [renO] at hb;rw [E2.rowv i hi] at hb;exact hb
  |frz sz xs=>exact hb
  |ext R=>have hb:e2.blk (rn ρ i)=b:=hb;rw [E2.blk i hi] at hb;exact hb
  |gone=>exact hb
 have hownno: ∀o b,o∉ρ→ap e2 (putObs ρ (renH ρ L) H) o b→ap e H o b:=by
  intro o b ho hb
  unfold ap at hb⊢
  rw [hgetno o ho] at hb
  cases hx:H[o]? with
  |none=>rw [hx] at hb;exact hb.elim
  |some x=>
   rw [hx] at hb
   cases x with
   |var T cs=>exact hb
   |row el sz xs=>
    obtain ⟨n,c,hv⟩:=hb
    exact ⟨n,c,by rw [←hv];exact (pick_no _ _ o ho).symm⟩
   |frz sz xs=>exact hb
   |ext R=>exact hb
   |gone=>exact hb
 have hnotown: ∀o b,o∉ρ→ap e H o b→ ¬ ∃i,i<ρ.length∧ap e H (rn ρ i) b:=by
  rintro o b ho h1 ⟨i,hi,h2⟩
  have:=M.heap.one _ _ _ h1 h2
  subst this
  exact ho (List.mem_of_getElem? (rnof i hi))
 have M2:Mem C (putObs ρ (renH ρ L) H) w' F' e2:=by
  refine ⟨⟨by rw [putObs_length];exact M.heap.len,fun o y hy=> ?_,fun o1 o2 b h1 h2=> ?_⟩,⟨M1.mod.os.trans M.mod.os,M1.mod.tape.trans M.mod.tape,M1.mod.output.trans M.mod.output,Nat.le_trans M.mod.size M1.mod.size,fun b hb hn=> ?_⟩,fun o b hb=> ?_,fun b hb=>M1.sub b (M.sub b hb),M1.bound,fun b hb=> ?_,M.env.trans hEe,M.g⟩
  ·by_cases hm:o∈ρ
   ·obtain ⟨i,hi,rfl⟩:=inρ o hm
    obtain ⟨x,hx⟩: ∃x,L[i]? =some x:=⟨_,List.getElem?_eq_getElem (by omega)⟩
    rw [hget i x hi hx] at hy
    injection hy with hy
    subst hy
    have:=Mc.heap.ob i x hx
    cases x with
    |var T cs=>
     obtain ⟨hF,us,h1,h2,h3⟩:=this
     refine ⟨by rw [E2.blk i hi];exact hF,us,by rw [E2.blk i hi];exact h1,by rw [h2,rens_length],(reps_ren (w:=w') (F:=F') E2 cs (fun j=>us.getD j undef) (by have:=withinObs_get w4 i _ hx;simpa [withinOb] using this)).1 h3⟩
    |row el sz xs=>exact ⟨by rw [E2.rlen i hi];exact this.1,by rw [E2.rowv i hi];exact this.2⟩
    |frz sz xs=>exact ⟨by rw [E2.rlen i hi];exact this.1,this.2.1,by rw [E2.rowv i hi];exact this.2.2⟩
    |ext R=>exact ⟨by rw [E2.blk i hi];exact this.1,by rw [E2.blk i hi];exact this.2⟩
    |gone=>trivial
   ·rw [hgetno o hm] at hy
    have hlt:o<e.len:=by rw [M.heap.len];exact (List.getElem?_eq_some_iff.1 hy).1
    refine ObRep.keep hy hlt (M.heap.ob o y hy) hLat (fun b hb=> ?_) hEe (pick_no _ _ o hm) (pick_no _ _ o hm) (fun b hb=>M1.mod.block b (hb.lt M.heap) (hnotown o b hm hb))
    rcases M1.fresh b hb with h4|h4|h4
    ·exact .inl h4
    ·refine .inr fun h5=> ?_
     have h4:w.heap.size≤b:=h4
     have:=h5.lt M.heap
     omega
    ·exact .inr fun h5=>hnotown o b hm h5 h4
  ·by_cases m1:o1∈ρ<;>by_cases m2:o2∈ρ
   ·obtain ⟨i,hi,rfl⟩:=inρ o1 m1
    obtain ⟨j,hj,rfl⟩:=inρ o2 m2
    rw [Mc.heap.one _ _ _ (hown2 i b hi h1) (hown2 j b hj h2)]
   ·obtain ⟨i,hi,rfl⟩:=inρ o1 m1
    have k2:=hownno o2 b m2 h2
    rcases Mc.ours _ _ (hown2 i b hi h1) with h4|h4
    ·have h4:w.heap.size≤b:=h4
     have:=k2.lt M.heap;omega
    ·exact absurd h4 (hnotown o2 b m2 k2)
   ·obtain ⟨j,hj,rfl⟩:=inρ o2 m2
    have k1:=hownno o1 b m1 h1
    rcases Mc.ours _ _ (hown2 j b hj h2) with h4|h4
    ·have h4:w.heap.size≤b:=h4
     have:=k1.lt M.heap;omega
    ·exact absurd h4 (hnotown o1 b m1 k1)
   ·exact M.heap.one _ _ _ (hownno o1 b m1 h1) (hownno o2 b m2 h2)
  ·rw [M1.mod.block b (Nat.lt_of_lt_of_le hb M.mod.size) (fun ⟨i,_,h4⟩=> ?_)]
   ·exact M.mod.block b hb hn
   ·rcases M.ours _ _ h4 with h5|h5
    ·omega
    ·exact hn h5
  ·by_cases hm:o∈ρ
   ·obtain ⟨i,hi,rfl⟩:=inρ o hm
    rcases Mc.ours _ _ (hown2 i b hi hb) with h4|⟨j,_,h4⟩
    ·exact .inl (Nat.le_trans M.mod.size h4)
    ·exact M.ours _ _ h4
   ·exact M.ours _ _ (hownno o b hm hb)
  ·rcases M1.fresh b hb with h4|h4|⟨j,_,h4⟩
   ·exact M.fresh b h4
   ·exact .inr (.inl (Nat.le_trans M.mod.size h4))
   ·rcases M.ours _ _ h4 with h5|h5
    ·exact .inr (.inl h5)
    ·exact .inr (.inr h5)
 refine ⟨ren ρ r,x,_,F',e2,rfl,hk,M2,?_,hEe,hLat⟩
 exact (rep_ren E2 r x w3).1 (within_cut r x w3 hrep)
def RenRs (S:St) (ρ:List Nat):List (Nat×AV)→Prop
 |[]=>True
 |p::r=>S.regs p.1=ren ρ p.2∧RenRs S ρ r
end
end Go.Ab
namespace Go.Ab
set_option linter.unusedVariables false
set_option linter.unusedSimpArgs false
section
variable {P:Program} {C:Ctx} {S:St} {a:Act} {H:List Ob} {w:World} {F:Nat→Prop} {e:Env}
theorem Mem.pushOwn (M:Mem C H w F e) {el sz:Nat} {xs:List (List AV)} {x:Value} (hr:cL w F el sz xs x) (hb: ∀n c b,x= .slice (some ⟨b,0,none⟩) n c→(∀o,¬ap e H o b)∧(C.w0.heap.size≤b∨C.own0 b)):
 Mem C (H++[.row el sz xs]) w F (e.pushRow xs.length x):=by
 have hlen:=M.heap.len
 have E:=aH.pushRow e xs.length x
 have h1:(e.pushRow xs.length x).rlen H.length=xs.length:=by simp only [Env.pushRow];rw [←hlen];exact ba _ _ _
 have h2:(e.pushRow xs.length x).rowv H.length=x:=by simp only [Env.pushRow];rw [←hlen];exact ba _ _ _
 have hlt: ∀o b,ap e H o b→o<H.length:=by
  intro o b h
  unfold ap at h
  cases hg:H[o]? with
  |none=>rw [hg] at h;exact h.elim
  |some y=>exact (List.getElem?_eq_some_iff.1 hg).1
 have old: ∀o b,o<H.length→(ap (e.pushRow xs.length x) (H++[.row el sz xs]) o b↔ap e H o b):=by
  intro o b ho
  unfold ap
  rw [List.getElem?_append_left ho]
  have e1:(e.pushRow xs.length x).blk o=e.blk o:=E.blk o (by omega)
  have e2:(e.pushRow xs.length x).rowv o=e.rowv o:=by simp only [Env.pushRow];exact cj _ _ _ (by omega)
  cases H[o]? with
  |none=>simp
  |some y=>cases y<;>simp [e1,e2]
 have new: ∀b,ap (e.pushRow xs.length x) (H++[.row el sz xs]) H.length b→ ∃n c,x= .slice (some ⟨b,0,none⟩) n c:=by
  intro b h
  unfold ap at h
  simp at h
  rw [h2] at h
  exact h
 have bound: ∀o b,ap (e.pushRow xs.length x) (H++[.row el sz xs]) o b→o<H.length∨o=H.length:=by
  intro o b h
  unfold ap at h
  cases hg:(H++[Ob.row el sz xs])[o]? with
  |none=>rw [hg] at h;exact h.elim
  |some y=>
   have:=(List.getElem?_eq_some_iff.1 hg).1
   simp at this
   omega
 refine ⟨⟨by simp [Env.pushRow,hlen],fun o y hy=> ?_,fun o o' b ho ho'=> ?_⟩,M.mod,fun o b ho=> ?_,M.sub,M.bound,M.fresh,M.env.trans E,M.g⟩
 ·rcases Nat.lt_or_ge o H.length with hlo|hge
  ·rw [List.getElem?_append_left hlo] at hy
   exact ObRep.keep hy (by omega) (M.heap.ob o y hy) (bS.refl w F) (fun b hb=>.inl hb) E (by simp only [Env.pushRow];exact cj _ _ _ (by omega)) (by simp only [Env.pushRow];exact cj _ _ _ (by omega)) (fun b hb=>rfl)
  ·have:o=H.length:=by
    have:=(List.getElem?_eq_some_iff.1 hy).1
    simp at this
    omega
   subst this
   simp at hy
   subst hy
   exact ⟨h1,by rw [h2];exact hr⟩
 ·rcases bound o b ho with h|h<;>rcases bound o' b ho' with h'|h'
  ·exact M.heap.one o o' b ((old o b h).1 ho) ((old o' b h').1 ho')
  ·subst h'
   obtain ⟨n,c,hx⟩:=new b ho'
   exact absurd ((old o b h).1 ho) ((hb n c b hx).1 o)
  ·subst h
   obtain ⟨n,c,hx⟩:=new b ho
   exact absurd ((old o' b h').1 ho') ((hb n c b hx).1 o')
  ·omega
 ·rcases bound o b ho with h|h
  ·exact M.ours o b ((old o b h).1 ho)
  ·subst h
   obtain ⟨n,c,hx⟩:=new b ho
   exact (hb n c b hx).2
theorem weak_arr (t o T n:Nat) (cs:List AV) (ht:S.regs t= .ptr o 0) (ho:S.heap[o]? =some (.var T cs)) (h1:ones cs=true) (hv:withins 0 cs=true) (hn:cs.length=n) (hmax:Nat.ble n 1000=true):
 bl S ⟨S.n,S.base,upd S.regs t (.rptr S.heap.length n 1 0 0),S.heap.set o .gone++[.row T 1 (cs.map fun s=>[s])]⟩:=by
 subst hn
 refine ⟨fun C a w F e h=> ?_⟩
 have hlo:o<S.heap.length:=(List.getElem?_eq_some_iff.1 ho).1
 obtain ⟨hF,vs,hblk,hsz,hrep⟩:=h.mem.heap.ob o _ ho
 have hown:ap e S.heap o (e.blk o):=by unfold ap;rw [ho]
 have hrow:cL w F T 1 (cs.map fun s=>[s]) (.slice (some ⟨e.blk o,0,none⟩) cs.length cs.length):=by
  refine ⟨fun i x hx=> ?_,.inr ⟨e.blk o,cs.length,vs,by rw [List.length_map],hF,hblk,by omega,by rw [List.length_map];exact Nat.le_refl _,by have:=Nat.le_of_ble_eq_true hmax;unfold maxLen;omega,fun i x j s hx hj=> ?_⟩⟩
  ·rw [List.getElem?_map] at hx
   cases hg:cs[i]? with
   |none=>rw [hg] at hx;cases hx
   |some s=>
    rw [hg] at hx
    injection hx with hx
    subst hx
    refine ⟨rfl,?_⟩
    have:=List.all_eq_true.1 h1 s (List.mem_of_getElem? hg)
    simp [ones,this]
  ·rw [List.getElem?_map] at hx
   cases hg:cs[i]? with
   |none=>rw [hg] at hx;cases hx
   |some s'=>
    rw [hg] at hx
    injection hx with hx
    subst hx
    have hj0:j=0:=by
     have:=(List.getElem?_eq_some_iff.1 hj).1
     simpa using this
    subst hj0
    simp at hj
    subst hj
    have hi:i<cs.length:=(List.getElem?_eq_some_iff.1 hg).1
    refine ⟨vs.getD i undef,?_,?_⟩
    ·rw [Nat.mul_one,Nat.add_zero];exact getElem?_of_getD (by omega)
    ·exact (withins_cut (m:=0) cs (fun j=>vs.getD j undef) hv hrep i s' hg).mono (bS.refl w F) ⟨Nat.le_refl 0,fun _ h=>absurd h (Nat.not_lt_zero _),fun _ h=>absurd h (Nat.not_lt_zero _)⟩
 have M1:=h.mem.letgo o
 have M:=M1.pushOwn hrow (fun n c b hx=>by
  injection hx with hx _ _
  injection hx with hx
  injection hx with hx _ _
  subst hx
  refine ⟨fun o' ho'=> ?_,h.mem.ours o _ hown⟩
  unfold ap at ho'
  rw [List.getElem?_set] at ho'
  by_cases hoo:o=o'
  ·rw [if_pos hoo] at ho'
   rw [if_pos (by first|exact hlo|omega)] at ho'
   exact ho'.elim
  ·rw [if_neg hoo] at ho'
   exact hoo (h.mem.heap.one o o' _ hown ho'))
 rw [List.length_map] at M
 refine ⟨F,e.pushRow cs.length (.slice (some ⟨e.blk o,0,none⟩) cs.length cs.length),h.defers,h.size,h.base,fun s=> ?_,M⟩
 simp only
 by_cases hs:s=t
 ·subst hs
  rw [ba]
  have hv:=h.regs s
  rw [ht] at hv
  obtain ⟨_,hv⟩:=hv.ptr_inv
  rw [hv]
  have hlen:=h.mem.heap.len
  have hlt:S.heap.length<(e.pushRow cs.length (.slice (some ⟨e.blk o,0,none⟩) cs.length cs.length)).len:=by show S.heap.length<e.len+1;rw [hlen];omega
  have:=ch.rptr (w:=w) (F:=F) (e:=e.pushRow cs.length (.slice (some ⟨e.blk o,0,none⟩) cs.length cs.length)) (o:=S.heap.length) (n:=cs.length) (sz:=1) (i:=0) (off:=0) (b:=e.blk o) (m:=cs.length) (c:=cs.length) hlt
   (by simp only [Env.pushRow];rw [←hlen,ba]) (by simp only [Env.pushRow];rw [←hlen,ba])
  simpa using this
 ·rw [cj _ _ _ hs]
  exact (h.regs s).mono (bS.refl w F) (aH.pushRow e _ _)
end
structure TriL (P:Program) (c:Code) (Q:Exit→St→Prop) (n:Nat) (S:St):Prop where
 out: ∀C a w F e,Sat C S a w F e→Code.rounds P c (fun x a' w'=> ∃S' F' e',Q x S'∧Sat C S' a' w' F' e') n a w
end Go.Ab
namespace Go.Ab
set_option linter.unusedVariables false
set_option linter.unusedSimpArgs false
mutual
def conc:AV→Option Value
 | .v x=>some x
 | .ifc t x=>(match conc x with|some y=>some (.iface t y)|none=>none)
 | .agg cs=>(match concs cs with|some l=>some (.agg l.toArray)|none=>none)
 | .tup cs=>(match concs cs with|some l=>some (.tuple l.toArray)|none=>none)
 | .sl _=>none
 | .slc _=>none
 | .ptr _ _=>none
 | .row _ _=>none
 | .rptr _ _ _ _ _=>none
 | .vw _ _ _ _ _=>none
 | .eptr _=>none
 | .mp _=>none
 | .fn _ _ _=>none
 | .dead=>none
def concs:List AV→Option (List Value)
 |[]=>some []
 |a::r=>(match conc a,concs r with|some x,some l=>some (x::l)|_,_=>none)
end
section
variable {w:World} {F:Nat→Prop} {e:Env}
theorem concs_cons {a:AV} {r:List AV} {l:List Value} (h:concs (a::r)=some l): ∃x l',l=x::l'∧conc a=some x∧concs r=some l':=by
 unfold concs at h
 split at h
 ·rename_i x l' h1 h2
  injection h with h
  exact ⟨x,l',h.symm,h1,h2⟩
 ·cases h
theorem list_of_cells (cs:List AV) (vs:Array Value) (l:List Value) (hs:vs.size=cs.length) (hl:l.length=cs.length) (h: ∀(j:Nat),j<cs.length→vs.getD j undef=l.getD j undef):vs=l.toArray:=by
 apply Array.ext
 ·simp [hs,hl]
 ·intro i h1 h2
  have:=h i (by omega)
  rw [Array.getD_eq_getD_getElem?,Array.getElem?_eq_getElem h1] at this
  simp only [Option.getD_some] at this
  rw [this]
  simp at h2
  simp [h2]
mutual
theorem conc_inv: ∀(a:AV) (x v:Value),ch w F e a x→conc a=some v→x=v
 | .v y,x,v,h,hc=>by
   have:=h.v_inv
   unfold conc at hc
   injection hc with hc
   rw [this,hc]
 | .ifc t s,x,v,h,hc=>by
   obtain ⟨y,rfl,hr⟩:=h.ifc_inv
   unfold conc at hc
   split at hc
   ·rename_i z hz
    injection hc with hc
    rw [←hc,conc_inv s y z hr hz]
   ·cases hc
 | .agg cs,x,v,h,hc=>by
   obtain ⟨vs,rfl,h1,h2⟩:=h.agg_inv
   unfold conc at hc
   split at hc
   ·rename_i l hl
    injection hc with hc
    obtain ⟨h3,h4⟩:=concs_inv cs (fun j=>vs.getD j undef) l h2 hl
    rw [←hc,list_of_cells cs vs l h1 h3 h4]
   ·cases hc
 | .tup cs,x,v,h,hc=>by
   obtain ⟨vs,rfl,h1,h2⟩:=h.tup_inv
   unfold conc at hc
   split at hc
   ·rename_i l hl
    injection hc with hc
    obtain ⟨h3,h4⟩:=concs_inv cs (fun j=>vs.getD j undef) l h2 hl
    rw [←hc,list_of_cells cs vs l h1 h3 h4]
   ·cases hc
 | .sl _,x,v,h,hc=>by unfold conc at hc;cases hc
 | .slc _,x,v,h,hc=>by unfold conc at hc;cases hc
 | .ptr _ _,x,v,h,hc=>by unfold conc at hc;cases hc
 | .row _ _,x,v,h,hc=>by unfold conc at hc;cases hc
 | .rptr _ _ _ _ _,x,v,h,hc=>by unfold conc at hc;cases hc
 | .vw _ _ _ _ _,x,v,h,hc=>by unfold conc at hc;cases hc
 | .eptr _,x,v,h,hc=>by unfold conc at hc;cases hc
 | .mp _,x,v,h,hc=>by unfold conc at hc;cases hc
 | .fn _ _ _,x,v,h,hc=>by unfold conc at hc;cases hc
 | .dead,x,v,h,hc=>by unfold conc at hc;cases hc
theorem concs_inv: ∀(cs:List AV) (f:Nat→Value) (l:List Value),(∀(j:Nat) s,cs[j]? =some s→ch w F e s (f j))→concs cs=some l→l.length=cs.length∧ ∀(j:Nat),j<cs.length→f j=l.getD j undef
 |[],f,l,h,hc=>by
  unfold concs at hc
  injection hc with hc
  subst hc
  exact ⟨rfl,fun j hj=>absurd hj (by simp)⟩
 |a::r,f,l,h,hc=>by
  obtain ⟨x,l',rfl,h1,h2⟩:=concs_cons hc
  obtain ⟨h3,h4⟩:=concs_inv r (fun j=>f (j+1)) l' (fun j s hj=>h (j+1) s (by simpa using hj)) h2
  refine ⟨by simp [h3],fun j hj=> ?_⟩
  cases j with
  |zero=>simpa using conc_inv a (f 0) x (h 0 a rfl) h1
  |succ j=>simpa using h4 j (by simpa using hj)
end
mutual
theorem conc_rep: ∀(a:AV) (v:Value),conc a=some v→ch w F e a v
 | .v y,v,hc=>by
   unfold conc at hc
   injection hc with hc
   subst hc;exact .v
 | .ifc t s,v,hc=>by
   unfold conc at hc
   split at hc
   ·rename_i z hz
    injection hc with hc
    subst hc
    exact .ifc (conc_rep s z hz)
   ·cases hc
 | .agg cs,v,hc=>by
   unfold conc at hc
   split at hc
   ·rename_i l hl
    injection hc with hc
    subst hc
    obtain ⟨h1,h2⟩:=concs_rep cs l hl
    exact .agg (by simp [h1]) (fun j s hj=>by simpa [Array.getD_eq_getD_getElem?] using h2 j s hj)
   ·cases hc
 | .tup cs,v,hc=>by
   unfold conc at hc
   split at hc
   ·rename_i l hl
    injection hc with hc
    subst hc
    obtain ⟨h1,h2⟩:=concs_rep cs l hl
    exact .tup (by simp [h1]) (fun j s hj=>by simpa [Array.getD_eq_getD_getElem?] using h2 j s hj)
   ·cases hc
 | .sl _,v,hc=>by unfold conc at hc;cases hc
 | .slc _,v,hc=>by unfold conc at hc;cases hc
 | .ptr _ _,v,hc=>by unfold conc at hc;cases hc
 | .row _ _,v,hc=>by unfold conc at hc;cases hc
 | .rptr _ _ _ _ _,v,hc=>by unfold conc at hc;cases hc
 | .vw _ _ _ _ _,v,hc=>by unfold conc at hc;cases hc
 | .eptr _,v,hc=>by unfold conc at hc;cases hc
 | .mp _,v,hc=>by unfold conc at hc;cases hc
 | .fn _ _ _,v,hc=>by unfold conc at hc;cases hc
 | .dead,v,hc=>by unfold conc at hc;cases hc
theorem concs_rep: ∀(cs:List AV) (l:List Value),concs cs=some l→l.length=cs.length∧ ∀(j:Nat) s,cs[j]? =some s→ch w F e s (l.getD j undef)
 |[],l,hc=>by
  unfold concs at hc
  injection hc with hc
  subst hc
  exact ⟨rfl,fun j s hj=>by simp at hj⟩
 |a::r,l,hc=>by
  obtain ⟨x,l',rfl,h1,h2⟩:=concs_cons hc
  obtain ⟨h3,h4⟩:=concs_rep r l' h2
  refine ⟨by simp [h3],fun j s hj=> ?_⟩
  cases j with
  |zero=>
   simp at hj
   subst hj
   simpa using conc_rep a x h1
  |succ j=>simpa using h4 j s (by simpa using hj)
end
theorem pureClosed {P:Program} {g:FuncId} {args:List AV} {l:List Value} {r:AV} {v:Value} (hc:Callable P g) (ha:concs args=some l) (hr:conc r=some v)
 (h: ∀w,Calls P g l.toArray w fun en w'=>en= .returned v∧bV w w' (fun _=>False)):PureP P g args (fun a=>a=r):=by
 refine ⟨hc,fun w F vs hg hb hv=> ?_⟩
 obtain ⟨h1,h2⟩:=hv
 obtain ⟨h3,h4⟩:=concs_inv args (fun j=>vs.getD j undef) l h2 ha
 rw [list_of_cells args vs l h1 h3 h4]
 refine (h w).mono ?_
 rintro en w' ⟨rfl,T⟩
 exact ⟨r,v,F,rfl,rfl,conc_rep r v hr,fun _ h=>h,fun _ h=>.inl h,fun b h=>Nat.lt_of_lt_of_le (hb b h) T.size,T⟩
end
end Go.Ab
namespace Go.Ab
abbrev Str:=List UInt8
def u8 (n:Int):UInt8:=UInt8.ofNat n.toNat
def aL {α:Type} (p:Prop) [Decidable p] (m:Option α):Option α:=if p then m else none
theorem au {α:Type} {p:Prop} [Decidable p] {m:Option α} {r:α} (h:aL p m=some r):p∧m=some r:=by
 unfold aL at h
 split at h
 ·exact ⟨by assumption,h⟩
 ·cases h
theorem ah {α:Type} {p:Prop} [Decidable p] {m:Option α} (h:p):aL p m=m:=if_pos h
theorem bind_some {α β:Type} {m:Option α} {f:α→Option β} {r:β} (h:m.bind f=some r): ∃y,m=some y∧f y=some r:=Option.bind_eq_some_iff.1 h
theorem if_t {α:Type} {b:Bool} {x y:Option α} {r:α} (hb:b=true) (h:(if b=true then x else y)=some r):x=some r:=by rwa [if_pos hb] at h
theorem if_f {α:Type} {b:Bool} {x y:Option α} {r:α} (hb:b=false) (h:(if b=true then x else y)=some r):y=some r:=by subst hb;exact h
def ix {α:Type} (l:List α) (i:Int):Option α:=if 0≤i then l[i.toNat]? else none
theorem af {α:Type} {l:List α} {i:Int} {x:α} (h:ix l i=some x):0≤i∧l[i.toNat]? =some x:=by
 unfold ix at h
 split at h
 ·exact ⟨by assumption,h⟩
 ·cases h
theorem bX {α:Type} {l:List α} {i:Int} {x:α} (h:ix l i=some x):0≤i∧i<(l.length:Int)∧i.toNat<l.length:=by
 obtain ⟨h1,h2⟩:=af h
 have:=(List.getElem?_eq_some_iff.1 h2).1
 omega
theorem ix_nat {α:Type} (l:List α) (k:Nat):ix l (k:Int)=l[k]? :=by unfold ix;simp
theorem ix_get {α:Type} {l:List α} {k:Nat} (h:k<l.length):ix l (k:Int)=some l[k]:=by rw [ix_nat,List.getElem?_eq_getElem h]
def loopN {σ ρ:Type} (step:σ→Option (σ⊕ρ)):Nat→σ→Option ρ
 |0,_=>none
 |n+1,s=>match step s with
  |none=>none
  |some (.inl s')=>loopN step n s'
  |some (.inr r)=>some r
theorem loopN_succ {σ ρ:Type} {step:σ→Option (σ⊕ρ)}: ∀ {n:Nat} {s:σ} {r:ρ},loopN step n s=some r→loopN step (n+1) s=some r
 |0,_,_,h=>by cases h
 |n+1,s,r,h=>by
  unfold loopN at h⊢
  split at h
  ·cases h
  ·rename_i s' hs;exact loopN_succ h
  ·exact h
theorem loopN_le {σ ρ:Type} {step:σ→Option (σ⊕ρ)} {n m:Nat} {s:σ} {r:ρ} (hm:n≤m) (h:loopN step n s=some r):loopN step m s=some r:=by
 induction hm with
 |refl=>exact h
 |step _ ih=>exact loopN_succ ih
open Classical in
noncomputable def loop {σ ρ:Type} (step:σ→Option (σ⊕ρ)) (s:σ):Option ρ:=
 if h: ∃r n,loopN step n s=some r then some h.choose else none
theorem loop_iff {σ ρ:Type} {step:σ→Option (σ⊕ρ)} {s:σ} {r:ρ}:loop step s=some r↔ ∃n,loopN step n s=some r:=by
 constructor
 ·intro h
  unfold loop at h
  split at h
  ·rename_i hh
   injection h with h
   subst h
   exact hh.choose_spec
  ·cases h
 ·rintro ⟨n,h⟩
  have hh: ∃r n,loopN step n s=some r:=⟨r,n,h⟩
  unfold loop
  rw [dif_pos hh]
  obtain ⟨m,h2⟩:=hh.choose_spec
  have a:=loopN_le (Nat.le_max_left n m) h
  have b:=loopN_le (Nat.le_max_right n m) h2
  rw [a] at b
  exact b.symm
theorem loop_eq {σ ρ:Type} (step:σ→Option (σ⊕ρ)) (s:σ):loop step s=(step s).bind fun y=>match y with| .inl s'=>loop step s'| .inr r=>some r:=by
 cases hs:step s with
 |none=>
  rw [Option.bind_none]
  cases hl:loop step s with
  |none=>rfl
  |some r=>
   obtain ⟨n,h⟩:=loop_iff.1 hl
   cases n with
   |zero=>cases h
   |succ n=>unfold loopN at h;rw [hs] at h;cases h
 |some y=>
  rw [Option.bind_some]
  cases y with
  |inr r=>exact loop_iff.2 ⟨1,by unfold loopN;rw [hs]⟩
  |inl s'=>
   simp only
   cases hl:loop step s' with
   |none=>
    cases hl2:loop step s with
    |none=>rfl
    |some r=>
     obtain ⟨n,h⟩:=loop_iff.1 hl2
     cases n with
     |zero=>cases h
     |succ n=>
      unfold loopN at h
      rw [hs] at h
      have:=loop_iff.2 ⟨n,h⟩
      rw [hl] at this;cases this
   |some r=>
    obtain ⟨n,h⟩:=loop_iff.1 hl
    exact loop_iff.2 ⟨n+1,by unfold loopN;rw [hs];exact h⟩
theorem bz {σ ρ:Type} {step:σ→Option (σ⊕ρ)} {s s':σ} (h:step s=some (.inl s')):loop step s=loop step s':=by rw [loop_eq,h];rfl
theorem aF {σ ρ:Type} {step:σ→Option (σ⊕ρ)} {s:σ} {r:ρ} (h:step s=some (.inr r)):loop step s=some r:=by rw [loop_eq,h];rfl
end Go.Ab
namespace Go.Ab
set_option linter.unusedVariables false
set_option linter.unusedSimpArgs false
def bs (l:Str):ByteArray:=⟨⟨l⟩⟩
theorem bs_toList (l:Str):(bs l).toList=l:=by
 rw [ByteArray.toList_eq];rfl
theorem bs_of (b:ByteArray):bs b.data.toList=b:=rfl
theorem bs_inj {a b:Str} (h:bs a=bs b):a=b:=by injection h with h;injection h
theorem bs_iff {a b:Str}:bs a=bs b↔a=b:=⟨bs_inj,fun h=>h▸rfl⟩
theorem dD (a b:Str):bs (a++b)=bs a++bs b:=by
 apply ByteArray.ext
 rw [ByteArray.data_append]
 simp [bs]
theorem ofInts_eq (l:List Int):bs (l.map u8)=ofInts l:=by
 have key: ∀(l:List Int) (b:ByteArray),(l.foldl (fun r n=>r.push (UInt8.ofNat n.toNat)) b).data.toList=b.data.toList++l.map u8:=by
  intro l
  induction l with
  |nil=>intro b;simp
  |cons n r ih=>intro b;rw [List.foldl_cons,ih];simp [ByteArray.push,u8]
 have h:=key l ByteArray.empty
 have e:ByteArray.empty.data.toList=[]:=rfl
 rw [e,List.nil_append] at h
 rw [←bs_of (ofInts l)]
 unfold ofInts
 rw [h]
theorem bs_size (l:Str):((bs l).size:Int)=l.length:=rfl
theorem bs_eq (a b:Str):decide (a=b)=decide (bs a=bs b):=by
 rw [decide_eq_decide];exact ⟨fun h=>h▸rfl,bs_inj⟩
theorem bs_ne (a b:Str):(!decide (a=b))= !decide (bs a=bs b):=by rw [bs_eq]
def ltS (a b:Str):Bool:=Op.bytesLess a b
theorem bs_lt (a b:Str):ltS a b=ltB (bs a) (bs b):=by unfold ltS ltB;rw [bs_toList,bs_toList]
theorem bs_le (a b:Str):(ltS a b||decide (a=b))=(ltB (bs a) (bs b)||decide (bs a=bs b)):=by rw [bs_lt,bs_eq]
theorem bs_gt (a b:Str):(!(ltS a b||decide (a=b)))= !(ltB (bs a) (bs b)||decide (bs a=bs b)):=by rw [bs_lt,bs_eq]
theorem bs_ge (a b:Str):(!ltS a b)= !ltB (bs a) (bs b):=by rw [bs_lt]
def cut {α:Type} (l:List α) (i j:Int):List α:=(l.take j.toNat).drop i.toNat
theorem bs_cut (l:Str) (i j:Int):bs (cut l i j)=(bs l).extract i.toNat j.toNat:=by
 apply ByteArray.ext
 rw [ByteArray.data_extract]
 apply Array.ext'
 simp [bs,cut,List.drop_take]
theorem bs_at {l:Str} {i:Int} {c:UInt8} (h:ix l i=some c):(c.toNat:Int)=((byteAt (bs l) i.toNat).toNat:Int):=by
 have h1:=(af h).2
 have hlt:=(bX h).2.2
 have:byteAt (bs l) i.toNat=c:=by
  unfold byteAt
  rw [dif_pos (show i.toNat<(bs l).size from hlt)]
  have:(bs l)[i.toNat]'(show i.toNat<(bs l).size from hlt)=l[i.toNat]:=rfl
  rw [this]
  rw [List.getElem?_eq_getElem hlt] at h1
  injection h1
 rw [this]
theorem bs_bound {l:Str} {i:Int} {c:UInt8} (h:ix l i=some c):0≤i∧i.toNat<(bs l).size:=⟨(bX h).1,(bX h).2.2⟩
theorem del_list {α:Type} (xs:List α) (i j:Nat) (r:List α) (h1:i≤j) (h2:j≤xs.length):
 List.take (i+(xs.length - j)) (List.take (i+(xs.length - j)) (List.take i xs++List.take (xs.length - j) (List.drop j xs)++List.drop (i+(xs.length - j)) xs)++r)=List.take i xs++List.drop j xs:=by
 have e1:List.take (xs.length - j) (List.drop j xs)=List.drop j xs:=by
  apply List.take_of_length_le;simp
 have e2:(List.take i xs++List.drop j xs).length=i+(xs.length - j):=by simp;omega
 rw [e1]
 have e3:List.take (i+(xs.length - j)) (List.take i xs++List.drop j xs++List.drop (i+(xs.length - j)) xs)=List.take i xs++List.drop j xs:=by
  rw [List.take_append_of_le_length (by omega),List.take_of_length_le (by omega)]
 rw [e3,List.take_append_of_le_length (by omega),List.take_of_length_le (by omega)]
theorem al {α:Type} (f:α→List AV) {l:List α} {k:Nat} {x:α} (h:l[k]? =some x):(l.map f)[k]? =some (f x):=by rw [List.getElem?_map,h];rfl
theorem map_len {α:Type} {f:α→List AV} {n:Nat} (hf: ∀x,(f x).length=n) (l:List α): ∀cs∈l.map f,cs.length=n:=by
 intro cs h;obtain ⟨x,_,rfl⟩:=List.mem_map.1 h;exact hf x
theorem map_cut {α:Type} (f:α→List AV) (l:List α) (i j:Int):(cut l i j).map f=((l.map f).take j.toNat).drop i.toNat:=by simp [cut,List.map_take,List.map_drop]
theorem map_set {α:Type} (f:α→List AV) (l:List α) (k:Nat) (x:α) {cs:List AV} (h:cs=f x):(l.set k x).map f=(l.map f).set k cs:=by rw [h,List.map_set]
theorem dk {α:Type} (f:α→List AV) (l m:List α) {xs ys:List (List AV)} (h:xs=l.map f) (k:ys=m.map f):(l++m).map f=xs++ys:=by rw [h,k,List.map_append]
theorem aA {α:Type} (f:α→List AV) (l:List α):((l.map f).length:Int)=l.length:=by rw [List.length_map]
def ax (k:IntKind) (n:Int):List AV:=[.v (.int k n)]
def encB (b:Bool):List AV:=[.v (.bool b)]
def encS (s:Str):List AV:=[.v (.string (bs s))]
theorem LeRs.all {S:St} {l:List (Nat×AV)} (h:l.map (fun p=>S.regs p.1)=l.map (·.2)):LeRs S l:=by
 induction l with
 |nil=>exact .nil
 |cons p r ih=>
  rw [List.map_cons,List.map_cons] at h
  obtain ⟨h1,h2⟩:=List.cons.inj h
  exact .cons (.one (.same h1)) (ih h2)
theorem LeRs.run (k:Nat) {S:St} {l:List (Nat×AV)} (h:(l.take k).map (fun p=>S.regs p.1)=(l.take k).map (·.2)) (hr:LeRs S (l.drop k)):LeRs S l:=by
 induction k generalizing l with
 |zero=>exact hr
 |succ k ih=>
  cases l with
  |nil=>exact .nil
  |cons p r=>
   rw [List.take_succ_cons,List.map_cons,List.map_cons] at h
   obtain ⟨h1,h2⟩:=List.cons.inj h
   exact .cons (.one (.same h1)) (ih h2 hr)
theorem LeH.rest {H r:List Ob}:LeH H r r:=by
 induction r with
 |nil=>exact .nil
 |cons a r ih=>exact .cons (.same rfl) ih
structure FinW (f:Exit→St→Prop) (ex:Exit) (S:St):Prop where
 out: ∃S',bl S S'∧f ex S'
theorem dt {f:Exit→St→Prop} {ex:Exit} {S:St} (h:f ex S):FinW f ex S:=⟨⟨S,bl.refl S,h⟩⟩
theorem fin_pre {f:Exit→St→Prop} {ex:Exit} {S S':St} (hw:bl S S') (h:f ex S'):FinW f ex S:=⟨⟨S',hw,h⟩⟩
theorem dz.ofW {P:Program} {c:Code} {S:St} {f:Exit→St→Prop} (h:dz P c S (FinW f)):dz P c S f:=by
 refine ⟨fun C a w F e hs=>wp_mono (h.out C a w F e hs) ?_⟩
 rintro x a' w' ⟨S',F',e',hq,hs'⟩
 obtain ⟨S2,hw,hf⟩:=hq.out
 obtain ⟨F2,e2,h2⟩:=hw.out C a' w' F' e' hs'
 exact ⟨S2,F2,e2,hf,h2⟩
section
variable {P:Program} {G:Gm}
theorem pureW (hG:TyOk P G.tys) {g:FuncId} {fn:Func} {c:Code} (hf:P.funcs[g]? =some fn) (hb:fn.body=some c) (hn:(fn.name == "runtime.NumGoroutine")=false)
 {args:List AV} {K:AV→Prop} (hl:args.length≤fn.ntmps) (h:dz P c ⟨fn.ntmps,0,initRegs args,[]⟩ (FinW (finP G fn.results.toList K))):PureP P g args K:=pure_of hG hf hb hn hl h.ofW
theorem callW (hG:TyOk P G.tys) {g:FuncId} {fn:Func} {c:Code} (hf:P.funcs[g]? =some fn) (hb:fn.body=some c) (hn:(fn.name == "runtime.NumGoroutine")=false)
 {H:List Ob} {args:List AV} {K:AV→List Ob→Prop} (hl:args.length≤fn.ntmps) (h:dz P c ⟨fn.ntmps,H.length,initRegs args,H⟩ (FinW (finC G fn.results.toList K))):du P g H args K:=call_of hG hf hb hn hl h.ofW
theorem freshW (hG:TyOk P G.tys) {g:FuncId} {fn:Func} {c:Code} (hf:P.funcs[g]? =some fn) (hb:fn.body=some c) (hn:(fn.name == "runtime.NumGoroutine")=false)
 {args:List AV} {el sz:Nat} {K:List (List AV)→Prop} (hl:args.length≤fn.ntmps) (h:dz P c ⟨fn.ntmps,0,initRegs args,[]⟩ (FinW (finE G fn.results.toList el sz K))):FreshP P g args el sz K:=fresh_of hG hf hb hn hl h.ofW
theorem eatW (hG:TyOk P G.tys) {g:FuncId} {fn:Func} {c:Code} (hf:P.funcs[g]? =some fn) (hb:fn.body=some c) (hn:(fn.name == "runtime.NumGoroutine")=false)
 {args:List AV} {el sz:Nat} {xs:List (List AV)} {K:List (List AV)→Prop} (hl:args.length+1≤fn.ntmps) (h:dz P c ⟨fn.ntmps,1,initRegs (.row 0 xs.length::args),[.row el sz xs]⟩ (FinW (finE G fn.results.toList el sz K))):EatP P g el sz xs args K:=eat_of hG hf hb hn hl h.ofW
end
section
variable {P:Program} {S:St}
theorem dz.loopF {σ ρ:Type} {c:Code} {Q:Exit→St→Prop} {step:σ→Option (σ⊕ρ)} (Fam:σ→St) {s0:σ} {r:ρ} (h:Go.Ab.loop step s0=some r) (h0:bl S (Fam s0))
 (round: ∀s y,step s=some y→(∀r',y= .inr r'→r'=r)→dz P c (Fam s) fun x S2=>match x with| .normal=> ∃s',y= .inl s'∧bl S2 (Fam s')|x=>Q x S2):dz P (.loop c) S Q:=by
 obtain ⟨n,hn⟩:=loop_iff.1 h
 refine dz.loop (fun n S=> ∃s,S=Fam s∧loopN step n s=some r) n (Fam s0) h0 ⟨s0,rfl,hn⟩ ?_
 rintro n S1 ⟨s,rfl,hs⟩
 cases n with
 |zero=>cases hs
 |succ n=>
  unfold loopN at hs
  cases hy:step s with
  |none=>rw [hy] at hs;cases hs
  |some y=>
   rw [hy] at hs
   refine (round s y hy ?_).mono ?_
   ·rintro r' rfl;simp only at hs;injection hs
   ·intro x S2 hx
    cases x with
    |normal=>
     obtain ⟨s',rfl,hw⟩:=hx
     exact ⟨Fam s',n,hw,⟨s',rfl,hs⟩,by omega⟩
    |_=>exact hx
theorem dz.cut {c:Code} {Q:Exit→St→Prop} (I:Exit→St→Prop) (h:dz P c S I) (hq: ∀ex S',I ex S'→Q ex S'):dz P c S Q:=h.mono hq
theorem dz.condT {c:Operand} {x y:Code} {Q:Exit→St→Prop} (hb:S.ev c= .v (.bool true)) (h:dz P x (refineC S c true) Q):dz P (.cond c x y) S Q:=dz.cond hb (fun _=>h) (fun h=>by cases h)
theorem dz.condF {c:Operand} {x y:Code} {Q:Exit→St→Prop} (hb:S.ev c= .v (.bool false)) (h:dz P y (refineC S c false) Q):dz P (.cond c x y) S Q:=dz.cond hb (fun h=>by cases h) (fun _=>h)
end
end Go.Ab
namespace Go.Ab
open Go.RowKit
set_option linter.unusedVariables false
set_option linter.unusedSimpArgs false
theorem PureP.calls {P:Program} {g:FuncId} {args:List AV} {r:AV} {l:List Value} {v:Value} (h:PureP P g args (fun a=>a=r)) (ha:concs args=some l) (hr:conc r=some v) (w:World) (hg:GW w):
 Calls P g l.toArray w fun en w'=>en= .returned v∧w.grownBy w' none:=by
 obtain ⟨h1,h2⟩:=concs_rep (w:=w) (F:=fun _=>False) (e:=Env.nil) args l ha
 refine (h.run w (fun _=>False) l.toArray hg (fun _ x=>x.elim) ⟨by simp [h1],fun j s hj=>by simpa [Array.getD_eq_getD_getElem?] using h2 j s hj⟩).mono ?_
 rintro en w' ⟨r',x,F',rfl,rfl,hx,_,_,_,T⟩
 rw [conc_inv r' x v hx hr]
 exact ⟨rfl,⟨T.os,T.tape,T.output,T.size,fun k hk _=>T.block k hk (fun x=>x)⟩⟩
theorem row_far {W:World} {base:Nat} {e:TypeId} {size k:Nat} {v:Value} {xs:List Value} (h:W.ownsRow base e size v k xs) {B:Nat} (hB:B<base):some B≠v.ownBlock:=by
 rcases h.2 with ⟨rfl,_⟩|⟨g,cap,cur,rfl,hg,_⟩
 ·simp [Value.ownBlock]
 ·intro e'
  have:B=g:=by simpa [Value.ownBlock] using e'
  omega
theorem row_base {W:World} {base base':Nat} {e:TypeId} {size k:Nat} {v:Value} {xs:List Value} (h:W.ownsRow base e size v k xs) (hB:base'≤base):W.ownsRow base' e size v k xs:=by
 refine ⟨h.1,?_⟩
 rcases h.2 with h|⟨g,cap,cur,h1,hg,h2⟩
 ·exact .inl h
 ·exact .inr ⟨g,cap,cur,h1,by omega,h2⟩
def KeepBox (B:Nat) (t:TypeId) (X Y:World):Prop:= ∀v,Boxed X B t v→Boxed Y B t v
theorem keepBox_t {B:Nat} {t:TypeId} {X Y Z:World} (h:KeepBox B t X Y) (k:KeepBox B t Y Z):KeepBox B t X Z:=fun v hv=>k v (h v hv)
theorem keepBox_b {B n:Nat} {t:TypeId} (W:World) (l:Nat) (o o':Obj) (hn:n≤l) (hl:W.heap[l]? =some o) (hc:o.isCells=false) (hw:o.isWalk=false):KeepBox B t W (W.putObj l o'):=fun v hv=>
 hv.kept (grownBy_putObj' W l o') (fun e=>by injection e with e;subst e;rw [show W.heap[_]? =_ from hv] at hl;cases hl;cases hc)
theorem rep_of_row {w:World} {F:Nat→Prop} {e:Env} {base k:Nat} {t:TypeId} {v:Value} {vs:List Value} {xs:List AV} (h:w.ownsRow base t 1 v k vs) (hc:concs xs=some vs) (h1:ones xs=true) (hF: ∀b,v.ownBlock=some b→F b):
 ch w F e (.sl (xs.map fun a=>[a])) v:=by
 obtain ⟨hl,hr⟩:=concs_rep (w:=w) (F:=F) (e:=Env.nil) xs vs hc
 have hk:k=xs.length:=by have:=h.1;omega
 subst hk
 have hat: ∀(i:Nat) (cs:List AV),(xs.map fun a=>[a])[i]? =some cs→ ∃a,xs[i]? =some a∧cs=[a]:=fun i cs hi=>by
  rw [List.getElem?_map] at hi
  cases hg:xs[i]? with
  |none=>rw [hg] at hi;cases hi
  |some a=>rw [hg] at hi;injection hi with hi;exact ⟨a,rfl,hi.symm⟩
 have fin: ∀(A:Option Addr) (c g:Nat) (hcap:xs.length≤c) (hA:xs≠[]→A=some ⟨g,0,none⟩∧F g) (hcell: ∀i,i<xs.length→w.cell? ⟨g,i,none⟩=some (vs.getD i undef)),
  ch w F e (.sl (xs.map fun a=>[a])) (.slice A xs.length c):=by
  intro A c g hcap hA hcell
  have:xs.length=(xs.map fun a=>[a]).length:=by simp
  rw [this]
  refine .sl 1 ⟨g,0,none⟩ (fun i j=>vs.getD i undef) (by simpa using hcap) (fun hne=> ?_) (fun i cs hi=> ?_) (fun i cs hi=> ?_) (fun i cs j s hi hj=> ?_) (fun i cs j s hi hj=> ?_)
  ·have hx:xs≠[]:=by rintro rfl;exact hne rfl
   exact ⟨(hA hx).1,(hA hx).2,rfl⟩
  ·obtain ⟨a,_,rfl⟩:=hat i cs hi;rfl
  ·obtain ⟨a,ha,rfl⟩:=hat i cs hi
   have:=List.all_eq_true.1 h1 a (List.mem_of_getElem? ha)
   simp [ones,this]
  ·obtain ⟨a,ha,rfl⟩:=hat i cs hi
   have hj0:j=0:=by have:=(List.getElem?_eq_some_iff.1 hj).1;simpa using this
   subst hj0
   have:=hcell i (List.getElem?_eq_some_iff.1 ha).1
   simpa using this
  ·obtain ⟨a,ha,rfl⟩:=hat i cs hi
   have hj0:j=0:=by have:=(List.getElem?_eq_some_iff.1 hj).1;simpa using this
   subst hj0
   simp at hj
   subst hj
   exact hr i a ha
 rcases h.2 with ⟨rfl,h0⟩|⟨g,cap,cur,rfl,hg,hb,hcap,hmax,hsz,hcur⟩
 ·rw [←h0]
  exact fin none xs.length 0 (Nat.le_refl _) (fun hx=>by have:=List.length_pos_iff.2 hx;omega) (fun i hi=>by omega)
 ·refine fin (some ⟨g,0,none⟩) cap g hcap (fun _=>⟨rfl,hF g rfl⟩) (fun i hi=> ?_)
  have:vs[i]? =cur[i]? :=by
   rw [←hcur]
   rw [List.getElem?_take_of_lt (by omega)]
   simp
  have hi2:i<vs.length:=by omega
  simp only [World.cell?,hb]
  rw [←this,List.getElem?_eq_getElem hi2]
  simp [hi2]
theorem concs_strs: ∀(l:List Str),concs (l.map fun s=>AV.v (.string (bs s)))=some (l.map fun s=>Value.string (bs s))
 |[]=>rfl
 |s::r=>by
  rw [List.map_cons,List.map_cons]
  unfold concs conc
  rw [concs_strs r]
end Go.Ab
namespace Go.Ab
open Go.ChangeShapes Go.WideShapes Go.ChangeAt Go.RowKit
set_option linter.unusedVariables false
set_option linter.unusedSimpArgs false
def Old (w:World) (b:Nat):Prop:=b<w.heap.size
structure ci (w:World) (cs:List Value) (l:List AV):Prop where
 len:cs.length=l.length
 rep: ∀(j:Nat) s,l[j]? =some s→ch w (Old w) Env.nil s (cs.getD j undef)
mutual
def co {H:Type}:DataW H→Nat
 | .lit (.string bytes)=>bytes.length+1
 | .lit _=>1
 | .nil=>1
 | .ptr d=>co d+1
 | .slice elems spare=>bU elems+bU spare+1
 | .agg parts=>bU parts+1
 |_=>0
def bU {H:Type}:List (DataW H)→Nat
 |[]=>0
 |d::r=>co d+bU r
end
def okK (k:IntKind) (n:Int):Prop:=k.min≤n∧n≤k.max
def sumOf {α:Type} (f:α→Nat):List α→Nat
 |[]=>0
 |x::r=>f x+sumOf f r
section
variable {H:Type} {enc:TypeId×Value→H} {P:Program} {w:World} {spare:Nat→Bool} {held:Bool} {fuel:Nat} {cs:List Value} {x:DataW H×List MemPlace}
theorem ci.one {a:AV} {v:Value} (h:ch w (Old w) Env.nil a v):ci w [v] [a]:=by
 refine ⟨rfl,fun j s hj=> ?_⟩
 cases j with
 |zero=>simp at hj;subst hj;exact h
 |succ j=>simp at hj
theorem ci.nil:ci w (cs.drop cs.length) []:=⟨by simp,fun j s hj=>by simp at hj⟩
theorem ci.app {o k:Nat} {l r:List AV} (hk:l.length=k) (h:ci w ((cs.drop o).take k) l) (t:ci w (cs.drop (o+k)) r):ci w (cs.drop o) (l++r):=by
 have h1:=h.len
 have h2:=t.len
 rw [List.length_take,hk] at h1
 rw [List.length_drop] at h2
 have h3:(cs.drop o).length=cs.length - o:=List.length_drop
 refine ⟨by rw [List.length_append,hk,List.length_drop];omega,fun j s hj=> ?_⟩
 rcases Nat.lt_or_ge j l.length with hlt|hge
 ·rw [List.getElem?_append_left hlt] at hj
  have:=h.rep j s hj
  rw [List.getD_eq_getElem?_getD,List.getElem?_take_of_lt (by omega)] at this
  rw [List.getD_eq_getElem?_getD]
  exact this
 ·rw [List.getElem?_append_right hge] at hj
  have:=t.rep _ s hj
  rw [List.getD_eq_getElem?_getD,List.getElem?_drop] at this
  rw [List.getD_eq_getElem?_getD,List.getElem?_drop]
  have e:o+k+(j - l.length)=o+j:=by omega
  rw [e] at this
  exact this
theorem ci.cons {a:AV} {v:Value} {l:List AV} {vs:List Value} (h:ch w (Old w) Env.nil a v) (r:ci w vs l):ci w (v::vs) (a::l):=by
 refine ⟨by simp [r.len],fun j s hj=> ?_⟩
 cases j with
 |zero=>simp at hj;subst hj;exact h
 |succ j=>simp at hj;simpa using r.rep j s hj
theorem ci.none:ci w [] []:=⟨rfl,fun j s hj=>by simp at hj⟩
theorem ci.fst {a:AV} {v:Value} (h:ci w [v] [a]):ch w (Old w) Env.nil a v:=h.rep 0 a rfl
theorem ci.agg {vs:Array Value} {l:List AV} (h:ci w vs.toList l):ch w (Old w) Env.nil (.agg l) (.agg vs):=
 .agg (by simpa using h.len) (fun j s hj=>by have:=h.rep j s hj;rw [List.getD_eq_getElem?_getD,Array.getElem?_toList] at this;rw [Array.getD_eq_getD_getElem?];exact this)
theorem ci.cells {vs:List Value} {l:List AV} (h:ci w vs l):bA w (Old w) Env.nil l vs.toArray:=
 ⟨by simpa using h.len,fun j s hj=>by have:=h.rep j s hj;rw [List.getD_eq_getElem?_getD] at this;rw [Array.getD_eq_getD_getElem?];simpa using this⟩
theorem arg_agg {t:TypeId} {fs:Array Field} {v:Value} {d:DataW H} {ps:List MemPlace} {r:Reach} {b0:Nat} (ht:P.underlying t=some (.struct fs)) (hval:Value.okWide P w r b0 t v) (hd:DataW.Trod enc P w 0 spare held t v d ps):
 ∃vs fuel,v= .agg vs∧DataW.trod enc P w 0 spare held fuel t vs.toList=some (d,ps):=by
 obtain ⟨vs,rfl,_⟩:=okWide_struct ht hval
 obtain ⟨fuel,h⟩:=hd
 exact ⟨vs,fuel,rfl,h⟩
theorem arg_slice {t e:TypeId} {v:Value} {d:DataW H} {ps:List MemPlace} {r:Reach} {b0:Nat} (ht:P.underlying t=some (.slice e)) (hval:Value.okWide P w r b0 t v) (hd:DataW.Trod enc P w 0 spare held t v d ps):
 ∃fuel,DataW.trod enc P w 0 spare held fuel t [v]=some (d,ps):=by
 obtain ⟨a,l,c,rfl⟩:=okWide_slice ht hval
 exact hd
theorem arg_int {t:TypeId} {k:IntKind} {v:Value} {d:DataW H} {ps:List MemPlace} {r:Reach} {b0:Nat} (ht:P.underlying t=some (.int k)) (hval:Value.okWide P w r b0 t v) (hd:DataW.Trod enc P w 0 spare held t v d ps):
 ∃fuel,DataW.trod enc P w 0 spare held fuel t [v]=some (d,ps):=by
 obtain ⟨n,rfl⟩:=okWide_int ht hval
 exact hd
theorem rd_int {t:TypeId} {k:IntKind} (ht:P.underlying t=some (.int k)) (h:DataW.trod enc P w 0 spare held fuel t cs=some x): ∃n:Int,ci w cs [.v (.int k n)]∧okK k n∧1≤co x.1:=by
 obtain ⟨n,rfl,rfl,hw⟩:=DataW.trod_int ht h
 refine ⟨n,.one .v,?_,by simp [co]⟩
 simpa [Lit.wf,okK] using hw
theorem rd_str {t:TypeId} (ht:P.underlying t=some .string) (h:DataW.trod enc P w 0 spare held fuel t cs=some x): ∃s:Str,ci w cs [.v (.string (bs s))]∧s.length+1≤co x.1:=by
 obtain ⟨s,rfl,rfl,hw⟩:=DataW.trod_string ht h
 exact ⟨s.data.toList,.one (by rw [bs_of];exact .v),by simp [co]⟩
theorem bulkAll_append (l r:List (DataW H)):bU (l++r)=bU l+bU r:=by
 induction l with
 |nil=>simp [bU]
 |cons x l ih=>simp only [List.cons_append,bU,ih];omega
theorem cells_get {a:Addr} {n:Nat} {cs:List Value} (h:w.cells? 0 a n=some cs):cs.length=n∧ ∀j,j<n→w.cell? (a.add j)=some (cs.getD j undef):=by
 unfold World.cells? at h
 rw [if_pos (Nat.zero_le _)] at h
 have hl:=mapM_some_length h
 refine ⟨by simpa using hl,fun j hj=> ?_⟩
 have:=mapM_some_get h j j (by simp [hj])
 rw [this,List.getD_eq_getElem?_getD]
 have hlt:j<cs.length:=by rw [hl];simpa using hj
 rw [List.getElem?_eq_getElem hlt]
 rfl
theorem rd_slice {α:Type} {encα:α→List AV} {ok:α→Prop} {bk:α→Nat} {t e:TypeId} {sz:Nat} (ht:P.underlying t=some (.slice e)) (hsz:P.cellsOf e=sz) (hpos:0<sz) (henc: ∀v,(encα v).length=sz) (hone: ∀v,ones (encα v)=true)
 (hel: ∀(fuel:Nat) (cs:List Value) (x:DataW H×List MemPlace),DataW.trod enc P w 0 spare held fuel e cs=some x→ ∃v,ci w cs (encα v)∧ok v∧bk v≤co x.1)
 (h:DataW.trod enc P w 0 spare held fuel t cs=some x): ∃l:List α,ci w cs [.sl (l.map encα)]∧(∀v∈l,ok v)∧sumOf bk l+1≤co x.1:=by
 rcases DataW.trod_slice ht h with ⟨rfl,rfl⟩|⟨a,len,cap,elems,rest,n,rfl,rfl,rfl,_,hle,hmx,hlen,hget,_,_⟩
 ·refine ⟨[],.one ?_,by simp,by simp [sumOf,co]⟩
  exact .sl 0 default (fun _ _=>undef) (Nat.le_refl 0) (fun h=>absurd rfl h) (fun i cs h=>by simp at h) (fun i cs h=>by simp at h) (fun i cs j s h=>by simp at h) (fun i cs j s h=>by simp at h)
 ·
  have hex: ∀i,i<len→ ∃(v:α) (cs:List Value) (y:DataW H×List MemPlace),elems[i]? =some y∧w.cells? 0 (a.add (i*P.cellsOf e)) (P.cellsOf e)=some cs∧ci w cs (encα v)∧ok v∧bk v≤co y.1:=by
   intro i hi
   have h1:=hget i hi
   have hlt:i<elems.length:=by omega
   rw [List.getElem?_eq_getElem hlt] at h1
   obtain ⟨cs,h2,h3⟩:=Option.bind_eq_some_iff.1 h1
   obtain ⟨v,h4,h5,h6⟩:=hel _ _ _ h3
   exact ⟨v,cs,_,List.getElem?_eq_getElem hlt,h2,h4,h5,h6⟩
  have key: ∀m,m≤len→ ∃l:List α,l.length=m∧(∀v∈l,ok v)∧sumOf bk l≤bU ((elems.map (·.1)).take m)∧
   ∀i v,l[i]? =some v→ ∃cs,w.cells? 0 (a.add (i*P.cellsOf e)) (P.cellsOf e)=some cs∧ci w cs (encα v):=by
   intro m
   induction m with
   |zero=>intro _;exact ⟨[],rfl,by simp,by simp [sumOf],fun i v h=>by simp at h⟩
   |succ m ih=>
    intro hm
    obtain ⟨l,h1,h2,h3,h4⟩:=ih (by omega)
    obtain ⟨v,cs,y,h5,h6,h7,h8,h9⟩:=hex m (by omega)
    refine ⟨l++[v],by simp [h1],?_,?_,?_⟩
    ·intro u hu
     rcases List.mem_append.1 hu with hu|hu
     ·exact h2 u hu
     ·simp at hu;subst hu;exact h8
    ·have hs:sumOf bk (l++[v])=sumOf bk l+bk v:=by
      clear h1 h2 h3 h4
      induction l with
      |nil=>simp [sumOf]
      |cons u r ih=>simp only [List.cons_append,sumOf,ih];omega
     have ht:(elems.map (·.1)).take (m+1)=(elems.map (·.1)).take m++[y.1]:=by
      rw [List.take_add_one,List.getElem?_map,h5];rfl
     rw [hs,ht,bulkAll_append]
     simp only [bU]
     omega
    ·intro i u hi
     rcases Nat.lt_or_ge i l.length with hlt|hge
     ·rw [List.getElem?_append_left hlt] at hi;exact h4 i u hi
     ·rw [List.getElem?_append_right hge] at hi
      have:i=m:=by
       have:=(List.getElem?_eq_some_iff.1 hi).1
       simp at this;omega
      subst this
      rw [h1,Nat.sub_self] at hi
      simp at hi
      subst hi
      exact ⟨cs,h6,h7⟩
  obtain ⟨l,h1,h2,h3,h4⟩:=key len (Nat.le_refl _)
  have ha:l≠[]→a.block<w.heap.size∧a.spot=none∨True:=fun _=>.inr trivial
  have hlm:(l.map encα).length=len:=by rw [List.length_map];exact h1
  refine ⟨l,.one ?_,h2,?_⟩
  ·have hcells: ∀i v,l[i]? =some v→ ∃cs:List Value,cs.length=sz∧(∀j,j<sz→w.cell? ((a.add (i*sz)).add j)=some (cs.getD j undef))∧ ∀(j:Nat) s,(encα v)[j]? =some s→ch w (Old w) Env.nil s (cs.getD j undef):=by
    intro i v hi
    obtain ⟨cs,h5,h6⟩:=h4 i v hi
    obtain ⟨h7,h8⟩:=cells_get h5
    rw [hsz] at h7 h8
    exact ⟨cs,h7,h8,h6.rep⟩
   by_cases hne:l=[]
   ·subst hne
    simp at h1
    subst h1
    exact .sl 0 default (fun _ _=>undef) (Nat.zero_le _) (fun h=>absurd rfl h) (fun i cs h=>by simp at h) (fun i cs h=>by simp at h) (fun i cs j s h=>by simp at h) (fun i cs j s h=>by simp at h)
   ·have hspot:a.spot=none:=by
     obtain ⟨v,r,rfl⟩:=List.exists_cons_of_ne_nil hne
     obtain ⟨cs,h5,h6,_⟩:=hcells 0 v rfl
     have:=h6 0 hpos
     simp only [Nat.zero_mul] at this
     have e0:(a.add 0).add 0=a:=by simp [Addr.add]
     rw [e0] at this
     unfold World.cell? at this
     cases hs:a.spot with
     |none=>rfl
     |some k=>
      rw [hs] at this
      split at this
      ·simp at this
      ·cases this
    have hblk:a.block<w.heap.size:=by
     obtain ⟨v,r,rfl⟩:=List.exists_cons_of_ne_nil hne
     obtain ⟨cs,h5,h6,_⟩:=hcells 0 v rfl
     have:=h6 0 hpos
     have hb:=World.block_lt_of_cell? w _ this
     have e0:((a.add (0*sz)).add 0).block=a.block:=by simp [Addr.add]
     rw [e0] at hb
     exact hb
    have hadd: ∀i j,(a.add (i*sz)).add j=⟨a.block,a.off+i*sz+j,none⟩:=by
     intro i j
     have h1:a.add (i*sz)=⟨a.block,a.off+i*sz,none⟩:=by
      unfold Addr.add
      split
      ·rename_i h;rw [h];cases a;simp_all
      ·rfl
     rw [h1]
     exact cy rfl j
    have hch: ∀i,∃f:Nat→Value,∀v,l[i]? =some v→(∀j,j<sz→w.cell? ⟨a.block,a.off+i*sz+j,none⟩=some (f j))∧ ∀(j:Nat) s,(encα v)[j]? =some s→ch w (Old w) Env.nil s (f j):=by
     intro i
     cases hi:l[i]? with
     |none=>exact ⟨fun _=>undef,fun v h=>by cases h⟩
     |some v=>
      obtain ⟨cs,h5,h6,h7⟩:=hcells i v hi
      refine ⟨fun j=>cs.getD j undef,fun u hu=> ?_⟩
      injection hu with hu
      subst hu
      exact ⟨fun j hj=>by rw [←hadd];exact h6 j hj,h7⟩
    have hval: ∃vals:Nat→Nat→Value,∀i v,l[i]? =some v→(∀j,j<sz→w.cell? ⟨a.block,a.off+i*sz+j,none⟩=some (vals i j))∧ ∀(j:Nat) s,(encα v)[j]? =some s→ch w (Old w) Env.nil s (vals i j):=
     ⟨fun i=>(hch i).choose,fun i=>(hch i).choose_spec⟩
    obtain ⟨vals,hv⟩:=hval
    have hmap: ∀(i:Nat) cs,(l.map encα)[i]? =some cs→ ∃v,l[i]? =some v∧cs=encα v:=by
     intro i cs hi
     rw [List.getElem?_map] at hi
     cases hx:l[i]? with
     |none=>rw [hx] at hi;cases hi
     |some v=>rw [hx] at hi;exact ⟨v,rfl,by simpa using hi.symm⟩
    rw [←hlm]
    refine .sl sz a vals (by rw [hlm];exact hle) (fun _=>⟨rfl,hblk,hspot⟩) (fun i cs hi=> ?_) (fun i cs hi=> ?_) (fun i cs j s hi hj=> ?_) (fun i cs j s hi hj=> ?_)
    ·obtain ⟨v,_,rfl⟩:=hmap i cs hi;exact henc v
    ·obtain ⟨v,_,rfl⟩:=hmap i cs hi;exact hone v
    ·obtain ⟨v,hx,rfl⟩:=hmap i cs hi
     refine (hv i v hx).1 j ?_
     rw [←henc v];exact (List.getElem?_eq_some_iff.1 hj).1
    ·obtain ⟨v,hx,rfl⟩:=hmap i cs hi
     exact (hv i v hx).2 j s hj
  ·have:(elems.map (·.1)).take len=elems.map (·.1):=List.take_of_length_le (by simp [hlen])
   rw [this] at h3
   simp only [co]
   omega
theorem fields_of {t:TypeId} {fs:Array Field} (ht:P.underlying t=some (.struct fs)) (h:DataW.trod enc P w 0 spare held fuel t cs=some x):
 ∃(xs:List (DataW H×List MemPlace)) (n:Nat),bU (xs.map (·.1))+1≤co x.1∧cs.length=P.cellsOf t∧xs.length=fs.size∧
  ∀(i:Nat) (f:Field),fs[i]? =some f→DataW.trod enc P w 0 spare held n f.type ((cs.drop f.offset).take (P.cellsOf f.type))=xs[i]? :=by
 obtain ⟨xs,n,_,rfl,h1,h2,h3⟩:=DataW.trod_struct ht h
 exact ⟨xs,n,by simp [co],h1,h2,h3⟩
theorem below_of_touch {w w':World} (T:bV w w' (fun _=>False)):Below w.heap.size w w':=⟨T.os,T.tape,T.output,T.size,fun k hk=>T.block k hk (fun h=>h)⟩
theorem trodAll_below {W W':World} (hl:laidOutB P=true) (bel:Below W.heap.size W W'): ∀(ts:List TypeId) (vs:List Value) (ds:List (DataW H)) (ps:List MemPlace),(∀t∈ts,P.readableRec t=true∧t<P.types.size)→
 DataW.TrodAll enc P W 0 (fun _=>true) true ts vs ds ps→(∀x∈ps,x.block<W.heap.size)→DataW.TrodAll enc P W' 0 (fun b=>decide (b<W.heap.size)) true ts vs ds ps
 |[],[],[],ps,_,h,_=>h
 |t::ts,v::vs,d::ds,ps,hr,h,hlt=>by
  obtain ⟨p,q,h1,h2,rfl⟩:=h
  refine ⟨p,q,Below.trod hl (hr t (List.mem_cons_self ..)).1 (hr t (List.mem_cons_self ..)).2 h1 bel (fun x hx=>hlt x (List.mem_append_left _ hx)),?_,rfl⟩
  exact trodAll_below hl bel ts vs ds q (fun t ht=>hr t (List.mem_cons_of_mem _ ht)) h2 (fun x hx=>hlt x (List.mem_append_right _ hx))
 |[],_::_,_,_,_,h,_=>h.elim
 |[],[],_::_,_,_,h,_=>h.elim
 |_::_,[],_,_,_,h,_=>h.elim
 |_::_,_::_,[],_,_,h,_=>h.elim
theorem post_true {f:Func} {s:ChangeSpec} {W W':World} {args:Array Value} {ds gs:List (DataW H)} {before:List MemPlace} {tb:TypeId}
 (hW:DataW.Whole enc P f.params.toList s.vars false W args.toList ds gs before) (hvars:s.vars=[]) (hfn:s.fn H (ds++gs)= {results:=[.lit (.bool true)],args:=ds}) (hres:f.resultTypes= #[tb]) (hb:P.underlying tb=some .bool)
 (hl:laidOutB P=true) (hr: ∀t∈f.params.toList,P.readableRec t=true∧t<P.types.size) (bel:Below W.heap.size W W'):
 s.post enc P f false true false false W args (.bool true) W':=by
 have hlt:=hW.lt
 have hW':=hW
 obtain ⟨p,q,hA,hV,rfl,hfz,hnd⟩:=hW
 rw [hvars] at hV
 obtain ⟨rfl,rfl⟩:=trodVars_none hV
 rw [List.append_nil] at hW' hlt
 refine ⟨ds,[],p,[],p,[],hW',?_,?_,?_,bel.frame _,fun h=>by cases h⟩
 ·rw [hfn,hres]
  exact trodAll_mk1 (shut_bool hb _)
 ·rw [hfn]
  exact trodAll_below hl bel _ _ _ _ hr hA (fun x hx=>hlt x hx)
 ·rw [hvars,hfn]
  rfl
end
end Go.Ab
namespace Go.Ab
set_option linter.unusedVariables false
set_option linter.unusedSimpArgs false
abbrev vS (s:Str):AV:= .v (.string (bs s))
abbrev vI (n:Int):AV:= .v (.int .i64 n)
abbrev vU (n:Int):AV:= .v (.int .u64 n)
abbrev vW (n:Int):AV:= .v (.int .u8 n)
abbrev vB (b:Bool):AV:= .v (.bool b)
abbrev vN:AV:= .v (.slice none 0 0)
abbrev sL {α:Type} (f:α→List AV) (l:List α):AV:= .sl (l.map f)
structure GG (P:Program) (G:Gm):Prop where
 ty:TyOk P G.tys
 mx:P.follows .mixedOrders=true
def Plan.k (l:List Nat) (p:Plan):Plan:=l.foldr Plan.take p
def Plan.o (i:Nat) (p:Plan):Plan:= .alt i p .nil
structure NN (n:Nat):Prop where
theorem NN.d {n:Nat} (h:NN (n+1)):NN n:=⟨⟩
theorem LeH.s {H r s:List Ob} {a:Ob} (t:LeH H r s):LeH H (a::r) (a::s):= .cons (.same rfl) t
theorem LeH.g {H r s:List Ob} {a:Ob} (t:LeH H r s):LeH H (a::r) (.gone::s):= .cons .gone t
theorem LeRs.s {S:St} {t b r} (k:LeRs S r) (h:S.regs t=b:=by rfl):LeRs S ((t,b)::r):= .cons (.one (.same h)) k
theorem LeRs.d {S:St} {t r} (k:LeRs S r):LeRs S ((t,.dead)::r):= .cons (.one .dead) k
theorem LeRs.n {S:St} {t r} (k:LeRs S r) (h:S.regs t= .v (.slice none 0 0):=by rfl):LeRs S ((t,.sl [])::r):= .cons (.one (by rw [h];exact .nil)) k
theorem LeRs.f {S:St} {t r o n sz xs} (k:LeRs S r) (h:S.regs t= .row o n:=by rfl) (h1:S.heap[o]? =some (.frz sz xs):=by rfl) (h2:n=xs.length:=by rfl):LeRs S ((t,.sl xs)::r):= .cons (.one (by rw [h];exact .frz h1 h2)) k
theorem bL:(∀b,(b||true)=true)∧(∀b,(true||b)=true)∧(∀b,(false||b)=b)∧(∀b,(b||false)=b)∧(∀b,(b&&true)=b)∧(∀b,(true&&b)=b)∧(∀b,(b&&false)=false)∧(∀b,(false&&b)=false)∧(!true)=false∧(!false)=true∧(∀(α:Type) (x y:α),(if True then x else y)=x)∧(∀(α:Type) (x y:α),(if False then x else y)=y)∧(false=true)=False:=by simp
theorem LeRs.q {S:St} {t b r} (k:LeRs S r) (h:S.regs t=b:=by
 first
  |rfl
  |exact congrArg (AV.row _) (by simp)
  |exact congrArg (fun n=>AV.rptr _ n _ _ _) (by simp)
  |exact congrArg (fun n=>AV.vw _ n _ _ _) (by simp)
  |(show AV.v _=AV.v _;simp [i1];done)
  |(show AV.v _=AV.v _;simp [i1,i2];done)
  |(show AV.v _=AV.v _;simp [i1,i2,i3];done)
  |(show AV.v _=AV.v _;simp [i1,i2,i3,i4];done)
  |(show AV.v _=AV.v _;simp [i1,i2,i3,i4,i5];done)
  |(show AV.v _=AV.v _;simp [i1,i2,i3,i4,i5,i6];done)
  |(show AV.v _=AV.v _;simp [i1,i2,i3,i4,i5,i6,i7];done)
  |(show AV.v _=AV.v _;simp [i1,i2,i3,i4,i5,i6,i7,i8];done)
  |(show AV.v _=AV.v _;simp [i1,i2,i3,i4,i5,i6,i7,i8,i9];done)
  |(show AV.v _=AV.v _;simp only [i1,bL];done)
  |(show AV.v _=AV.v _;simp only [i1,i2,bL];done)
  |(show AV.v _=AV.v _;simp only [i1,i2,i3,bL];done)
  |(show AV.v _=AV.v _;simp only [i1,i2,i3,i4,bL];done)
  |(show AV.v _=AV.v _;simp only [i1,i2,i3,i4,i5,bL];done)
  |(show AV.v _=AV.v _;simp only [i1,i2,i3,i4,i5,i6,bL];done)
  |(show AV.v _=AV.v _;simp only [i1,i2,i3,i4,i5,i6,i7,bL];done)
  |(show AV.v _=AV.v _;simp only [i1,i2,i3,i4,i5,i6,i7,i8,bL];done)
  |(show AV.v _=AV.v _;simp only [i1,i2,i3,i4,i5,i6,i7,i8,i9,bL];done)
  |(show AV.v _=AV.v _;simp only [i1,bL];rfl)
  |(show AV.v _=AV.v _;simp only [i1,i2,bL];rfl)
  |(show AV.v _=AV.v _;simp only [i1,i2,i3,bL];rfl)
  |(exfalso;revert i1;simp+contextual;done)
  |(exfalso;revert i1 i2;simp+contextual;done)
  |(exfalso;revert i1 i2 i3;simp+contextual;done)
  |(exfalso;revert i1 i2 i3 i4;simp+contextual;done)
  |(exfalso;revert i1 i2 i3 i4 i5;simp+contextual;done)
  |(exfalso;revert i1 i2 i3 i4 i5 i6;simp+contextual;done)
  |(exfalso;revert i1 i2 i3 i4 i5 i6 i7;simp+contextual;done)
  |(exfalso;revert i1 i2 i3 i4 i5 i6 i7 i8;simp+contextual;done)
  |(exfalso;revert i1 i2 i3 i4 i5 i6 i7 i8 i9;simp+contextual;done)):LeRs S ((t,b)::r):= .cons (.one (.same h)) k
theorem wA {p:Prop} (k:p:=by exact weak_fin _ rfl rfl rfl .rest (.all rfl) rfl rfl):p:=k
section
variable {P:Program} {G:Gm} {S S':St} {Q:Exit→St→Prop}
theorem wF {n b:Nat} {l:List (Nat×AV)} {H D:List Ob} (hh:LeH S.heap S.heap (H++D)) (hr:LeRs S l) (hn:S.n=n:=by rfl) (hb:S.base=b:=by rfl) (hbm:Nat.ble b H.length=true:=by rfl)
 (hs:withinObs H.length H=true:=by rfl) (hl:withins H.length (l.map (·.2))=true:=by rfl):bl S ⟨n,b,ab l,H⟩:=weak_fin D hn hb hbm hh hr hs hl
theorem wI {p:Prop} (k:p:=by
 refine wF .rest ?_
 repeat (first|exact .all rfl|refine .s ?_ |refine .q ?_)):p:=k
theorem GG.run {c:Code} (g:GG P G) (h:Go.Ab.run P G c S Q):dz P c S Q:=dz.run g.ty g.mx h
theorem GG.a1 (g:GG P G) (h:Go.Ab.run P G .skip S Q):dz P .skip S Q:=g.run h
theorem GG.a2 {i} (g:GG P G) (h:Go.Ab.run P G (.exit i) S Q):dz P (.exit i) S Q:=g.run h
theorem GG.a3 (g:GG P G) (h:Go.Ab.run P G .ret S Q):dz P .ret S Q:=g.run h
theorem GG.a4 {a b c} (g:GG P G) (h:Go.Ab.run P G (.region a b c) S Q):dz P (.region a b c) S Q:=g.run h
theorem GG.a5 {i} (g:GG P G) (h:Go.Ab.run P G (.label i) S Q):dz P (.label i) S Q:=g.run h
theorem go {p q:Prop} (hq:q) (k:q→p:=by
 intro hq
 (try conv=>whnf)
 repeat (first
  |refine dz.seqK ?_
  |refine dz.block ?_
  |(refine GG.a4 g ?_;conv=>whnf)
  |(refine GG.a2 g ?_;conv=>whnf)
  |(refine GG.a3 g ?_;conv=>whnf)
  |(refine GG.a1 g ?_;conv=>whnf)
  |refine dz.scope ?_
  |(refine GG.a5 g ?_;conv=>whnf))
 exact hq):p:=k hq
theorem gN (n:Nat) {p q:Prop} (hq:q) (k:NN n→q→p:=by
 intro n0 hq
 (try conv=>whnf)
 repeat (first
  |(replace n0:=n0.d;refine dz.seqK ?_)
  |(replace n0:=n0.d;refine dz.block ?_)
  |(replace n0:=n0.d;refine GG.a4 g ?_;conv=>whnf)
  |(replace n0:=n0.d;refine GG.a2 g ?_;conv=>whnf)
  |(replace n0:=n0.d;refine GG.a3 g ?_;conv=>whnf)
  |(replace n0:=n0.d;refine GG.a1 g ?_;conv=>whnf)
  |(replace n0:=n0.d;refine dz.scope ?_)
  |(replace n0:=n0.d;refine GG.a5 g ?_;conv=>whnf))
 exact hq):p:=k ⟨⟩ hq
theorem pW (hG:TyOk P G.tys) (hm:P.follows .mixedOrders=true) {g:FuncId} {fn:Func} (hf:P.funcs[g]? =some fn) {c:Code} {args:List AV} {K:AV→Prop}
 (hb:fn.body=some c) (h:GG P G→dz P c ⟨fn.ntmps,0,initRegs args,[]⟩ (FinW (finP G fn.results.toList K))) (hn:(fn.name == "runtime.NumGoroutine")=false:=by kernel_rfl) (hl:Nat.ble args.length fn.ntmps=true:=by rfl):PureP P g args K:=pureW hG hf hb hn (Nat.le_of_ble_eq_true hl) (h ⟨hG,hm⟩)
theorem pC (hG:TyOk P G.tys) (hm:P.follows .mixedOrders=true) {g:FuncId} {fn:Func} (hf:P.funcs[g]? =some fn) {c:Code} {H:List Ob} {args:List AV} {K:AV→List Ob→Prop}
 (hb:fn.body=some c) (h:GG P G→dz P c ⟨fn.ntmps,H.length,initRegs args,H⟩ (FinW (finC G fn.results.toList K))) (hn:(fn.name == "runtime.NumGoroutine")=false:=by kernel_rfl) (hl:Nat.ble args.length fn.ntmps=true:=by rfl):du P g H args K:=callW hG hf hb hn (Nat.le_of_ble_eq_true hl) (h ⟨hG,hm⟩)
theorem pE (hG:TyOk P G.tys) (hm:P.follows .mixedOrders=true) {g:FuncId} {fn:Func} (hf:P.funcs[g]? =some fn) {c:Code} {args:List AV} {el sz:Nat} {K:List (List AV)→Prop}
 (hb:fn.body=some c) (h:GG P G→dz P c ⟨fn.ntmps,0,initRegs args,[]⟩ (FinW (finE G fn.results.toList el sz K))) (hn:(fn.name == "runtime.NumGoroutine")=false:=by kernel_rfl) (hl:Nat.ble args.length fn.ntmps=true:=by rfl):FreshP P g args el sz K:=freshW hG hf hb hn (Nat.le_of_ble_eq_true hl) (h ⟨hG,hm⟩)
theorem cC {α:Type} {c:Operand} {x y:Code} {b:Bool} {m n:Option α} {r:α} (h:(if b=true then m else n)=some r) (hb:S.ev c= .v (.bool b)) (h1:b=true→m=some r→dz P x (refineC S c true) Q) (h2:b=false→n=some r→dz P y (refineC S c false) Q):dz P (.cond c x y) S Q:=
 dz.cond hb (fun c=>h1 c (if_t c h)) (fun c=>h2 c (if_f c h))
theorem cD {c:Operand} {x y:Code} (b:Bool) (hb:S.ev c= .v (.bool b)) (h1:b=true→dz P x (refineC S c true) Q) (h2:b=false→dz P y (refineC S c false) Q):dz P (.cond c x y) S Q:=dz.cond hb h1 h2
theorem cM {α:Type} {b:Bool} {m n:Option α} {r:α} (h:(if b=true then m else n)=some r) {t e:Prop} (h1:b=true→m=some r→t) (h2:b=false→n=some r→e): @Bool.rec (fun _=>Prop) e t b:=cond_mk (fun c=>h1 c (if_t c h)) (fun c=>h2 c (if_f c h))
theorem cK (b:Bool) {t e:Prop} (h1:b=true→t) (h2:b=false→e): @Bool.rec (fun _=>Prop) e t b:=cond_mk h1 h2
theorem nD {α:Type} {φ:Prop} [Decidable φ] {m:Option α} {r:α} (h:aL φ m=some r) {t:Prop} (k:φ→m=some r→t):t:=k (au h).1 (au h).2
theorem bD {α β:Type} {m:Option α} {f:α→Option β} {r:β} (h:m.bind f=some r) {t:Prop} (k: ∀y,m=some y→f y=some r→t):t:=let ⟨y,h1,h2⟩:=bind_some h;k y h1 h2
theorem mP {g:FuncId} {args:List AV} {K:AV→Prop} {R:AV} (c:PureP P g args fun a=>a=R) (k:K R):PureP P g args K:=c.mono (by rintro _ rfl;exact k)
theorem mF {g:FuncId} {args:List AV} {el sz:Nat} {K:List (List AV)→Prop} {R:List (List AV)} (c:FreshP P g args el sz fun a=>a=R) (k:K R):FreshP P g args el sz K:=c.mono (by rintro _ rfl;exact k)
theorem mE {g:FuncId} {args:List AV} {el sz:Nat} {xs} {K:List (List AV)→Prop} {R:List (List AV)} (c:EatP P g el sz xs args fun a=>a=R) (k:K R):EatP P g el sz xs args K:=c.mono (by rintro _ rfl;exact k)
theorem cP {α β:Type} {m:Option α} {f:α→Option β} {r:β} (h:m.bind f=some r) {g:FuncId} {args:List AV} {K:AV→Prop} {R:α→AV} (c: ∀ {y},m=some y→PureP P g args fun a=>a=R y) (k: ∀y,f y=some r→K (R y)):PureP P g args K:=
 let ⟨y,h1,h2⟩:=bind_some h;mP (c h1) (k y h2)
theorem cF {α β:Type} {m:Option α} {f:α→Option β} {r:β} (h:m.bind f=some r) {g:FuncId} {args:List AV} {el sz:Nat} {K:List (List AV)→Prop} {R:α→List (List AV)} (c: ∀ {y},m=some y→FreshP P g args el sz fun a=>a=R y) (k: ∀y,f y=some r→K (R y)):FreshP P g args el sz K:=
 let ⟨y,h1,h2⟩:=bind_some h;mF (c h1) (k y h2)
theorem mC {g:FuncId} {H0 L:List Ob} {args0:List AV} {R:AV} (h:du P g H0 args0 fun r H'=>r=R∧H'.take L.length=L) {H:List Ob} {args:List AV} {K:AV→List Ob→Prop} (ρ:List Nat) (hk:K (ren ρ R) (putObs ρ (renH ρ L) H))
 (hd:distinct ρ=true:=by rfl) (hl:allLt H.length ρ=true:=by rfl) (hL:L.length=ρ.length:=by rfl) (hH:getObs H ρ=somes (renH ρ H0):=by rfl) (ha:rens ρ args0=args:=by rfl)
 (w1:withins ρ.length args0=true:=by rfl) (w2:withinObs ρ.length H0=true:=by rfl) (w3:within ρ.length R=true:=by rfl) (w4:withinObs ρ.length L=true:=by rfl):du P g H args K:=h.use ρ hd hl hL hH ha w1 w2 w3 w4 hk
theorem cU {α β:Type} {m:Option α} {f:α→Option β} {r:β} (h:m.bind f=some r) {g:FuncId} {H0:List Ob} {L:α→List Ob} {args0:List AV} {R:α→AV} (c: ∀ {y},m=some y→du P g H0 args0 fun r H'=>r=R y∧H'.take (L y).length=L y) {H:List Ob} {args:List AV} {K:AV→List Ob→Prop} (ρ:List Nat) (hk: ∀y,f y=some r→K (ren ρ (R y)) (putObs ρ (renH ρ (L y)) H))
 (hd:distinct ρ=true:=by rfl) (hl:allLt H.length ρ=true:=by rfl) (hL: ∀y,(L y).length=ρ.length:=by intro y;rfl) (hH:getObs H ρ=somes (renH ρ H0):=by rfl) (ha:rens ρ args0=args:=by rfl)
 (w1:withins ρ.length args0=true:=by rfl) (w2:withinObs ρ.length H0=true:=by rfl) (w3: ∀y,within ρ.length (R y)=true:=by intro y;rfl) (w4: ∀y,withinObs ρ.length (L y)=true:=by intro y;rfl):du P g H args K:=
 let ⟨y,h1,h2⟩:=bind_some h;(c h1).use ρ hd hl (hL y) hH ha w1 w2 (w3 y) (w4 y) (hk y h2)
theorem eF {p:Prop} (k:p:=by
 refine go ?_
 refine dt ?_
 conv=>whnf
 repeat (refine ⟨rfl,?_⟩;conv=>whnf)
 cases h
 first|rfl|exact ⟨rfl,rfl⟩):p:=k
theorem eFw {p:Prop} (k:p:=by
 refine go ?_
 refine fin_pre w ?_
 conv=>whnf
 repeat (refine ⟨rfl,?_⟩;conv=>whnf)
 cases h
 first|rfl|exact ⟨rfl,rfl⟩):p:=k
theorem eP {f:Exit→St→Prop} {ex:Exit} (Z:St) (hw:bl S Z) (k:f ex Z:=by
 conv=>whnf
 cases h
 first|rfl|exact ⟨rfl,rfl⟩):FinW f ex S:=fin_pre hw k
theorem cZ {p:Prop} (k:p:=by refine go ?_;exact ⟨rfl,wA⟩):p:=k
theorem cI {p:Prop} (k:p:=by refine go ?_;exact ⟨rfl,wI⟩):p:=k
theorem cA {p:Prop} (k:p:=by refine go ?_;exact wA):p:=k
theorem cE {p:Prop} (k:p:=by refine go ?_;cases h;exact ⟨rfl,wA⟩):p:=k
theorem cEw {p:Prop} (k:p:=by refine go ?_;cases h;exact ⟨rfl,bl.trans w wA⟩):p:=k
theorem cN {p:Prop} (k:p:=by refine go ?_;cases h;exact ⟨_,rfl,wA⟩):p:=k
theorem cNw {p:Prop} (k:p:=by refine go ?_;cases h;exact ⟨_,rfl,bl.trans w wA⟩):p:=k
theorem xE {p:Prop} (k:p:=by refine go ?_;cases h;obtain rfl:=r _ rfl;exact ⟨rfl,wA⟩):p:=k
theorem xEw {p:Prop} (k:p:=by refine go ?_;cases h;obtain rfl:=r _ rfl;exact ⟨rfl,bl.trans w wA⟩):p:=k
theorem wk {c:Code} (hw:bl S S') (h:dz P c S' Q):dz P c S Q:=dz.weak hw h
theorem k0 {x y:Code} (Z:St) (a:dz P x S fun ex S'=>ex= .normal∧bl S' Z) (b:dz P y Z Q):dz P (.seq x y) S Q:=by
 refine dz.seqK (dz.cut _ a ?_)
 rintro ex S' ⟨rfl,w⟩
 exact dz.weak w b
theorem k1 {α β:Type} {m:Option α} {f:α→Option β} {r:β} (h:m.bind f=some r) {x y:Code} (Z:α→St) (a: ∀y,m=some y→dz P x S fun ex S'=>ex= .normal∧bl S' (Z y)) (b: ∀v,f v=some r→dz P y (Z v) Q):dz P (.seq x y) S Q:=
 let ⟨v,h1,h2⟩:=bind_some h;k0 (Z v) (a v h1) (b v h2)
def aO {α:Type} (x:Exit) (Z:α→St) (y:α) (ex:Exit) (S':St):Prop:=ex=x∧bl S' (Z y)
theorem bO {α β:Type} {f:α→Option β} {r:β} {x:Exit} {Z:α→St} (b: ∀v S',f v=some r→bl S' (Z v)→Q x S'): ∀y ex S',f y=some r→aO x Z y ex S'→Q ex S':=by
 rintro y ex S' h ⟨rfl,w⟩
 exact b y S' h w
theorem bE {α α' β:Type} {f:α⊕α'→Option β} {r:β} {A:α→Exit→St→Prop} {B:α'→Exit→St→Prop} (b1: ∀v ex S',f (.inl v)=some r→A v ex S'→Q ex S') (b2: ∀v ex S',f (.inr v)=some r→B v ex S'→Q ex S'): ∀y ex S',f y=some r→Sum.elim A B y ex S'→Q ex S'
 | .inl v=>b1 v
 | .inr v=>b2 v
theorem kQ {α β:Type} {m:Option α} {f:α→Option β} {r:β} (h:m.bind f=some r) {c:Code} (A:α→Exit→St→Prop) (a: ∀y,m=some y→dz P c S (A y)) (b: ∀y ex S',f y=some r→A y ex S'→Q ex S'):dz P c S Q:=
 let ⟨y,h1,h2⟩:=bind_some h;(a y h1).mono fun ex S'=>b y ex S' h2
theorem kS {α β:Type} {m:Option α} {f:α→Option β} {r:β} (h:m.bind f=some r) {c d:Code} (A:α→Exit→St→Prop) (a: ∀y,m=some y→dz P c S (A y)) (b: ∀y ex S',f y=some r→A y ex S'→match ex with| .normal=>dz P d S' Q|ex=>Q ex S'):dz P (.seq c d) S Q:=dz.seqK (kQ (Q:=fun ex S'=>match ex with| .normal=>dz P d S' Q|ex=>Q ex S') h A a b)
theorem lQ {σ α β:Type} {step:σ→Option (σ⊕α)} {s0:σ} {f:α→Option β} {r:β} (h:(Go.Ab.loop step s0).bind f=some r) {c:Code} (F:σ→St) (A:α→Exit→St→Prop) (h0:bl S (F s0))
 (a: ∀y s v,step s=some v→(∀r',v= .inr r'→r'=y)→dz P c (F s) fun ex S'=>match ex with| .normal=> ∃s',v= .inl s'∧bl S' (F s')|ex=>A y ex S') (b: ∀y ex S',f y=some r→A y ex S'→Q ex S'):dz P (.loop c) S Q:=
 let ⟨y,h1,h2⟩:=bind_some h;(dz.loopF (Q:=A y) F h1 h0 (a y)).mono fun ex S'=>b y ex S' h2
end
end Go.Ab
namespace Go.Ab
open Go.Proofs
def ti3:TI:= {u:=(.int .i64),size:=1,bytes:=8,zero:=[.int .i64 (0)],plain:=false,conc:=true}
theorem tg3:aq Tryz.prog 3 ti3:=aq.of_facts _ Tryz.underlying3 rfl Tryz.t3 (by kernel_rfl) rfl rfl _ rfl (by kernel_rfl) (by kernel_rfl) (by kernel_rfl) rfl (by kernel_rfl)
def ti4:TI:= {u:= .bool,size:=1,bytes:=1,zero:=[.bool false],plain:=false,conc:=true}
theorem tg4:aq Tryz.prog 4 ti4:=aq.of_facts _ Tryz.underlying4 rfl Tryz.t4 (by kernel_rfl) rfl rfl _ rfl (by kernel_rfl) (by kernel_rfl) (by kernel_rfl) rfl (by kernel_rfl)
def ti5:TI:= {u:=(.int .u8),size:=1,bytes:=1,zero:=[.int .u8 (0)],plain:=false,conc:=true}
theorem tg5:aq Tryz.prog 5 ti5:=aq.of_facts _ Tryz.underlying5 rfl Tryz.t5 (by kernel_rfl) rfl rfl _ rfl (by kernel_rfl) (by kernel_rfl) (by kernel_rfl) rfl (by kernel_rfl)
def ti9:TI:= {u:= .str,size:=1,bytes:=16,zero:=[.string ByteArray.empty],plain:=false,conc:=true}
theorem tg9:aq Tryz.prog 9 ti9:=aq.of_facts _ Tryz.underlying9 rfl Tryz.t9 (by kernel_rfl) rfl rfl _ rfl (by kernel_rfl) (by kernel_rfl) (by kernel_rfl) rfl (by kernel_rfl)
def ti20:TI:= {u:= .iface,size:=1,bytes:=16,zero:=[.nilIface],plain:=false,conc:=false}
theorem tg20:aq Tryz.prog 20 ti20:=aq.of_facts _ Tryz.underlying20 ⟨_,rfl⟩ Tryz.t20 (by kernel_rfl) rfl rfl _ rfl (by kernel_rfl) (by kernel_rfl) (by kernel_rfl) rfl (by kernel_rfl)
def ti22:TI:= {u:=(.slice 88),size:=1,bytes:=24,zero:=[.slice none 0 0],plain:=false,conc:=true}
theorem tg22:aq Tryz.prog 22 ti22:=aq.of_facts _ Tryz.underlying22 rfl Tryz.t22 (by kernel_rfl) rfl rfl _ rfl (by kernel_rfl) (by kernel_rfl) (by kernel_rfl) rfl (by kernel_rfl)
def ti24:TI:= {u:=(.slice 135),size:=1,bytes:=24,zero:=[.slice none 0 0],plain:=false,conc:=true}
theorem tg24:aq Tryz.prog 24 ti24:=aq.of_facts _ Tryz.underlying24 rfl Tryz.t24 (by kernel_rfl) rfl rfl _ rfl (by kernel_rfl) (by kernel_rfl) (by kernel_rfl) rfl (by kernel_rfl)
def ti26:TI:= {u:=(.struct [(0,24),(1,3),(2,3),(3,4)]),size:=4,bytes:=48,zero:=[.slice none 0 0,.int .i64 (0),.int .i64 (0),.bool false],plain:=false,conc:=true}
theorem tg26:aq Tryz.prog 26 ti26:=aq.of_facts _ Tryz.underlying26 ⟨_,rfl,rfl,by simp⟩ Tryz.t26 (by kernel_rfl) rfl rfl _ rfl (by kernel_rfl) (by kernel_rfl) (by kernel_rfl) rfl (by kernel_rfl)
def ti27:TI:= {u:=(.slice 103),size:=1,bytes:=24,zero:=[.slice none 0 0],plain:=false,conc:=true}
theorem tg27:aq Tryz.prog 27 ti27:=aq.of_facts _ Tryz.underlying27 rfl Tryz.t27 (by kernel_rfl) rfl rfl _ rfl (by kernel_rfl) (by kernel_rfl) (by kernel_rfl) rfl (by kernel_rfl)
def ti29:TI:= {u:=(.struct [(0,27),(1,27)]),size:=2,bytes:=48,zero:=[.slice none 0 0,.slice none 0 0],plain:=false,conc:=true}
theorem tg29:aq Tryz.prog 29 ti29:=aq.of_facts _ Tryz.underlying29 ⟨_,rfl,rfl,by simp⟩ Tryz.t29 (by kernel_rfl) rfl rfl _ rfl (by kernel_rfl) (by kernel_rfl) (by kernel_rfl) rfl (by kernel_rfl)
def ti31:TI:= {u:=(.struct [(0,26),(4,3),(5,3),(6,3),(7,29),(9,4)]),size:=10,bytes:=128,zero:=[.slice none 0 0,.int .i64 (0),.int .i64 (0),.bool false,.int .i64 (0),.int .i64 (0),.int .i64 (0),.slice none 0 0,.slice none 0 0,.bool false],plain:=false,conc:=true}
theorem tg31:aq Tryz.prog 31 ti31:=aq.of_facts _ Tryz.underlying31 ⟨_,rfl,rfl,by simp⟩ Tryz.t31 (by kernel_rfl) rfl rfl _ rfl (by kernel_rfl) (by kernel_rfl) (by kernel_rfl) rfl (by kernel_rfl)
def ti32:TI:= {u:=(.slice 52),size:=1,bytes:=24,zero:=[.slice none 0 0],plain:=false,conc:=true}
theorem tg32:aq Tryz.prog 32 ti32:=aq.of_facts _ Tryz.underlying32 rfl Tryz.t32 (by kernel_rfl) rfl rfl _ rfl (by kernel_rfl) (by kernel_rfl) (by kernel_rfl) rfl (by kernel_rfl)
def ti33:TI:= {u:=(.slice 91),size:=1,bytes:=24,zero:=[.slice none 0 0],plain:=false,conc:=true}
theorem tg33:aq Tryz.prog 33 ti33:=aq.of_facts _ Tryz.underlying33 rfl Tryz.t33 (by kernel_rfl) rfl rfl _ rfl (by kernel_rfl) (by kernel_rfl) (by kernel_rfl) rfl (by kernel_rfl)
def ti35:TI:= {u:=(.struct [(0,32),(1,33)]),size:=2,bytes:=48,zero:=[.slice none 0 0,.slice none 0 0],plain:=false,conc:=true}
theorem tg35:aq Tryz.prog 35 ti35:=aq.of_facts _ Tryz.underlying35 ⟨_,rfl,rfl,by simp⟩ Tryz.t35 (by kernel_rfl) rfl rfl _ rfl (by kernel_rfl) (by kernel_rfl) (by kernel_rfl) rfl (by kernel_rfl)
def ti36:TI:= {u:=(.slice 46),size:=1,bytes:=24,zero:=[.slice none 0 0],plain:=false,conc:=true}
theorem tg36:aq Tryz.prog 36 ti36:=aq.of_facts _ Tryz.underlying36 rfl Tryz.t36 (by kernel_rfl) rfl rfl _ rfl (by kernel_rfl) (by kernel_rfl) (by kernel_rfl) rfl (by kernel_rfl)
def ti37:TI:= {u:=(.int .u64),size:=1,bytes:=8,zero:=[.int .u64 (0)],plain:=false,conc:=true}
theorem tg37:aq Tryz.prog 37 ti37:=aq.of_facts _ Tryz.underlying37 rfl Tryz.t37 (by kernel_rfl) rfl rfl _ rfl (by kernel_rfl) (by kernel_rfl) (by kernel_rfl) rfl (by kernel_rfl)
def ti39:TI:= {u:=(.struct [(0,31),(10,35),(12,36),(13,3),(14,37)]),size:=15,bytes:=216,zero:=[.slice none 0 0,.int .i64 (0),.int .i64 (0),.bool false,.int .i64 (0),.int .i64 (0),.int .i64 (0),.slice none 0 0,.slice none 0 0,.bool false,.slice none 0 0,.slice none 0 0,.slice none 0 0,.int .i64 (0),.int .u64 (0)],plain:=false,conc:=true}
theorem tg39:aq Tryz.prog 39 ti39:=aq.of_facts _ Tryz.underlying39 ⟨_,rfl,rfl,by simp⟩ Tryz.t39 (by kernel_rfl) rfl rfl _ rfl (by kernel_rfl) (by kernel_rfl) (by kernel_rfl) rfl (by kernel_rfl)
def ti42:TI:= {u:=(.slice 67),size:=1,bytes:=24,zero:=[.slice none 0 0],plain:=false,conc:=true}
theorem tg42:aq Tryz.prog 42 ti42:=aq.of_facts _ Tryz.underlying42 rfl Tryz.t42 (by kernel_rfl) rfl rfl _ rfl (by kernel_rfl) (by kernel_rfl) (by kernel_rfl) rfl (by kernel_rfl)
def ti44:TI:= {u:=(.struct [(0,3),(1,9),(2,9),(3,9),(4,9),(5,3)]),size:=6,bytes:=80,zero:=[.int .i64 (0),.string ByteArray.empty,.string ByteArray.empty,.string ByteArray.empty,.string ByteArray.empty,.int .i64 (0)],plain:=true,conc:=true}
theorem tg44:aq Tryz.prog 44 ti44:=aq.of_facts _ Tryz.underlying44 ⟨_,rfl,rfl,by simp⟩ Tryz.t44 (by kernel_rfl) rfl rfl _ rfl (by kernel_rfl) (by kernel_rfl) (by kernel_rfl) rfl (by kernel_rfl)
def ti46:TI:= {u:=(.struct [(0,3),(1,9),(2,42),(3,4),(4,44)]),size:=10,bytes:=136,zero:=[.int .i64 (0),.string ByteArray.empty,.slice none 0 0,.bool false,.int .i64 (0),.string ByteArray.empty,.string ByteArray.empty,.string ByteArray.empty,.string ByteArray.empty,.int .i64 (0)],plain:=false,conc:=true}
theorem tg46:aq Tryz.prog 46 ti46:=aq.of_facts _ Tryz.underlying46 ⟨_,rfl,rfl,by simp⟩ Tryz.t46 (by kernel_rfl) rfl rfl _ rfl (by kernel_rfl) (by kernel_rfl) (by kernel_rfl) rfl (by kernel_rfl)
def ti50:TI:= {u:=(.struct [(0,3),(1,9),(2,9)]),size:=3,bytes:=40,zero:=[.int .i64 (0),.string ByteArray.empty,.string ByteArray.empty],plain:=true,conc:=true}
theorem tg50:aq Tryz.prog 50 ti50:=aq.of_facts _ Tryz.underlying50 ⟨_,rfl,rfl,by simp⟩ Tryz.t50 (by kernel_rfl) rfl rfl _ rfl (by kernel_rfl) (by kernel_rfl) (by kernel_rfl) rfl (by kernel_rfl)
def ti52:TI:= {u:=(.struct [(0,3),(1,50)]),size:=4,bytes:=48,zero:=[.int .i64 (0),.int .i64 (0),.string ByteArray.empty,.string ByteArray.empty],plain:=true,conc:=true}
theorem tg52:aq Tryz.prog 52 ti52:=aq.of_facts _ Tryz.underlying52 ⟨_,rfl,rfl,by simp⟩ Tryz.t52 (by kernel_rfl) rfl rfl _ rfl (by kernel_rfl) (by kernel_rfl) (by kernel_rfl) rfl (by kernel_rfl)
def ti57:TI:= {u:=(.struct [(0,3),(1,22),(2,3),(3,9)]),size:=4,bytes:=56,zero:=[.int .i64 (0),.slice none 0 0,.int .i64 (0),.string ByteArray.empty],plain:=false,conc:=true}
theorem tg57:aq Tryz.prog 57 ti57:=aq.of_facts _ Tryz.underlying57 ⟨_,rfl,rfl,by simp⟩ Tryz.t57 (by kernel_rfl) rfl rfl _ rfl (by kernel_rfl) (by kernel_rfl) (by kernel_rfl) rfl (by kernel_rfl)
def ti58:TI:= {u:=(.slice 63),size:=1,bytes:=24,zero:=[.slice none 0 0],plain:=false,conc:=true}
theorem tg58:aq Tryz.prog 58 ti58:=aq.of_facts _ Tryz.underlying58 rfl Tryz.t58 (by kernel_rfl) rfl rfl _ rfl (by kernel_rfl) (by kernel_rfl) (by kernel_rfl) rfl (by kernel_rfl)
def ti61:TI:= {u:=(.int .i64),size:=1,bytes:=8,zero:=[.int .i64 (0)],plain:=false,conc:=true}
theorem tg61:aq Tryz.prog 61 ti61:=aq.of_facts _ Tryz.underlying61 rfl Tryz.t61 (by kernel_rfl) rfl rfl _ rfl (by kernel_rfl) (by kernel_rfl) (by kernel_rfl) rfl (by kernel_rfl)
def ti63:TI:= {u:=(.struct [(0,3),(1,61),(2,9),(3,4),(4,27),(5,4)]),size:=6,bytes:=72,zero:=[.int .i64 (0),.int .i64 (0),.string ByteArray.empty,.bool false,.slice none 0 0,.bool false],plain:=false,conc:=true}
theorem tg63:aq Tryz.prog 63 ti63:=aq.of_facts _ Tryz.underlying63 ⟨_,rfl,rfl,by simp⟩ Tryz.t63 (by kernel_rfl) rfl rfl _ rfl (by kernel_rfl) (by kernel_rfl) (by kernel_rfl) rfl (by kernel_rfl)
def ti67:TI:= {u:=(.struct [(0,9),(1,9),(2,4)]),size:=3,bytes:=40,zero:=[.string ByteArray.empty,.string ByteArray.empty,.bool false],plain:=true,conc:=true}
theorem tg67:aq Tryz.prog 67 ti67:=aq.of_facts _ Tryz.underlying67 ⟨_,rfl,rfl,by simp⟩ Tryz.t67 (by kernel_rfl) rfl rfl _ rfl (by kernel_rfl) (by kernel_rfl) (by kernel_rfl) rfl (by kernel_rfl)
def ti74:TI:= {u:=(.struct [(0,3),(1,22),(2,3),(3,44),(9,3)]),size:=10,bytes:=128,zero:=[.int .i64 (0),.slice none 0 0,.int .i64 (0),.int .i64 (0),.string ByteArray.empty,.string ByteArray.empty,.string ByteArray.empty,.string ByteArray.empty,.int .i64 (0),.int .i64 (0)],plain:=false,conc:=true}
theorem tg74:aq Tryz.prog 74 ti74:=aq.of_facts _ Tryz.underlying74 ⟨_,rfl,rfl,by simp⟩ Tryz.t74 (by kernel_rfl) rfl rfl _ rfl (by kernel_rfl) (by kernel_rfl) (by kernel_rfl) rfl (by kernel_rfl)
def ti78:TI:= {u:=(.struct [(0,3),(1,22),(2,3),(3,44)]),size:=9,bytes:=120,zero:=[.int .i64 (0),.slice none 0 0,.int .i64 (0),.int .i64 (0),.string ByteArray.empty,.string ByteArray.empty,.string ByteArray.empty,.string ByteArray.empty,.int .i64 (0)],plain:=false,conc:=true}
theorem tg78:aq Tryz.prog 78 ti78:=aq.of_facts _ Tryz.underlying78 ⟨_,rfl,rfl,by simp⟩ Tryz.t78 (by kernel_rfl) rfl rfl _ rfl (by kernel_rfl) (by kernel_rfl) (by kernel_rfl) rfl (by kernel_rfl)
def ti88:TI:= {u:=(.struct [(0,3),(1,3),(2,3),(3,9),(4,44)]),size:=10,bytes:=120,zero:=[.int .i64 (0),.int .i64 (0),.int .i64 (0),.string ByteArray.empty,.int .i64 (0),.string ByteArray.empty,.string ByteArray.empty,.string ByteArray.empty,.string ByteArray.empty,.int .i64 (0)],plain:=true,conc:=true}
theorem tg88:aq Tryz.prog 88 ti88:=aq.of_facts _ Tryz.underlying88 ⟨_,rfl,rfl,by simp⟩ Tryz.t88 (by kernel_rfl) rfl rfl _ rfl (by kernel_rfl) (by kernel_rfl) (by kernel_rfl) rfl (by kernel_rfl)
def ti91:TI:= {u:=(.struct [(0,3),(1,50),(4,37)]),size:=5,bytes:=56,zero:=[.int .i64 (0),.int .i64 (0),.string ByteArray.empty,.string ByteArray.empty,.int .u64 (0)],plain:=true,conc:=true}
theorem tg91:aq Tryz.prog 91 ti91:=aq.of_facts _ Tryz.underlying91 ⟨_,rfl,rfl,by simp⟩ Tryz.t91 (by kernel_rfl) rfl rfl _ rfl (by kernel_rfl) (by kernel_rfl) (by kernel_rfl) rfl (by kernel_rfl)
def ti94:TI:= {u:= .ptr,size:=1,bytes:=8,zero:=[.pointer none],plain:=false,conc:=true}
theorem tg94:aq Tryz.prog 94 ti94:=aq.of_facts _ Tryz.underlying94 ⟨_,rfl⟩ Tryz.t94 (by kernel_rfl) rfl rfl _ rfl (by kernel_rfl) (by kernel_rfl) (by kernel_rfl) rfl (by kernel_rfl)
def ti96:TI:= {u:=(.struct [(0,39),(15,58)]),size:=16,bytes:=240,zero:=[.slice none 0 0,.int .i64 (0),.int .i64 (0),.bool false,.int .i64 (0),.int .i64 (0),.int .i64 (0),.slice none 0 0,.slice none 0 0,.bool false,.slice none 0 0,.slice none 0 0,.slice none 0 0,.int .i64 (0),.int .u64 (0),.slice none 0 0],plain:=false,conc:=true}
theorem tg96:aq Tryz.prog 96 ti96:=aq.of_facts _ Tryz.underlying96 ⟨_,rfl,rfl,by simp⟩ Tryz.t96 (by kernel_rfl) rfl rfl _ rfl (by kernel_rfl) (by kernel_rfl) (by kernel_rfl) rfl (by kernel_rfl)
def ti100:TI:= {u:=(.struct [(0,3),(1,9),(2,42)]),size:=3,bytes:=48,zero:=[.int .i64 (0),.string ByteArray.empty,.slice none 0 0],plain:=false,conc:=true}
theorem tg100:aq Tryz.prog 100 ti100:=aq.of_facts _ Tryz.underlying100 ⟨_,rfl,rfl,by simp⟩ Tryz.t100 (by kernel_rfl) rfl rfl _ rfl (by kernel_rfl) (by kernel_rfl) (by kernel_rfl) rfl (by kernel_rfl)
def ti103:TI:= {u:=(.struct [(0,9),(1,9)]),size:=2,bytes:=32,zero:=[.string ByteArray.empty,.string ByteArray.empty],plain:=true,conc:=true}
theorem tg103:aq Tryz.prog 103 ti103:=aq.of_facts _ Tryz.underlying103 ⟨_,rfl,rfl,by simp⟩ Tryz.t103 (by kernel_rfl) rfl rfl _ rfl (by kernel_rfl) (by kernel_rfl) (by kernel_rfl) rfl (by kernel_rfl)
def ti104:TI:= {u:=(.slice 3),size:=1,bytes:=24,zero:=[.slice none 0 0],plain:=false,conc:=true}
theorem tg104:aq Tryz.prog 104 ti104:=aq.of_facts _ Tryz.underlying104 rfl Tryz.t104 (by kernel_rfl) rfl rfl _ rfl (by kernel_rfl) (by kernel_rfl) (by kernel_rfl) rfl (by kernel_rfl)
def ti112:TI:= {u:= .func,size:=1,bytes:=8,zero:=[.nilFunc],plain:=false,conc:=true}
theorem tg112:aq Tryz.prog 112 ti112:=aq.of_facts _ Tryz.underlying112 ⟨_,_,_,rfl⟩ Tryz.t112 (by kernel_rfl) rfl rfl _ rfl (by kernel_rfl) (by kernel_rfl) (by kernel_rfl) rfl (by kernel_rfl)
def ti132:TI:= {u:= .func,size:=1,bytes:=8,zero:=[.nilFunc],plain:=false,conc:=true}
theorem tg132:aq Tryz.prog 132 ti132:=aq.of_facts _ Tryz.underlying132 ⟨_,_,_,rfl⟩ Tryz.t132 (by kernel_rfl) rfl rfl _ rfl (by kernel_rfl) (by kernel_rfl) (by kernel_rfl) rfl (by kernel_rfl)
def ti135:TI:= {u:=(.struct [(0,9),(1,9),(2,9)]),size:=3,bytes:=48,zero:=[.string ByteArray.empty,.string ByteArray.empty,.string ByteArray.empty],plain:=true,conc:=true}
theorem tg135:aq Tryz.prog 135 ti135:=aq.of_facts _ Tryz.underlying135 ⟨_,rfl,rfl,by simp⟩ Tryz.t135 (by kernel_rfl) rfl rfl _ rfl (by kernel_rfl) (by kernel_rfl) (by kernel_rfl) rfl (by kernel_rfl)
def ti142:TI:= {u:=(.slice 9),size:=1,bytes:=24,zero:=[.slice none 0 0],plain:=false,conc:=true}
theorem tg142:aq Tryz.prog 142 ti142:=aq.of_facts _ Tryz.underlying142 rfl Tryz.t142 (by kernel_rfl) rfl rfl _ rfl (by kernel_rfl) (by kernel_rfl) (by kernel_rfl) rfl (by kernel_rfl)
def ti157:TI:= {u:= .iface,size:=1,bytes:=16,zero:=[.nilIface],plain:=false,conc:=false}
theorem tg157:aq Tryz.prog 157 ti157:=aq.of_facts _ Tryz.underlying157 ⟨_,rfl⟩ Tryz.t157 (by kernel_rfl) rfl rfl _ rfl (by kernel_rfl) (by kernel_rfl) (by kernel_rfl) rfl (by kernel_rfl)
def ti162:TI:= {u:= .func,size:=1,bytes:=8,zero:=[.nilFunc],plain:=false,conc:=true}
theorem tg162:aq Tryz.prog 162 ti162:=aq.of_facts _ Tryz.underlying162 ⟨_,_,_,rfl⟩ Tryz.t162 (by kernel_rfl) rfl rfl _ rfl (by kernel_rfl) (by kernel_rfl) (by kernel_rfl) rfl (by kernel_rfl)
def ti186:TI:= {u:= .func,size:=1,bytes:=8,zero:=[.nilFunc],plain:=false,conc:=true}
theorem tg186:aq Tryz.prog 186 ti186:=aq.of_facts _ Tryz.underlying186 ⟨_,_,_,rfl⟩ Tryz.t186 (by kernel_rfl) rfl rfl _ rfl (by kernel_rfl) (by kernel_rfl) (by kernel_rfl) rfl (by kernel_rfl)
def ti190:TI:= {u:= .ptr,size:=1,bytes:=8,zero:=[.pointer none],plain:=false,conc:=true}
theorem tg190:aq Tryz.prog 190 ti190:=aq.of_facts _ Tryz.underlying190 ⟨_,rfl⟩ Tryz.t190 (by kernel_rfl) rfl rfl _ rfl (by kernel_rfl) (by kernel_rfl) (by kernel_rfl) rfl (by kernel_rfl)
def ti191:TI:= {u:= .func,size:=1,bytes:=8,zero:=[.nilFunc],plain:=false,conc:=true}
theorem tg191:aq Tryz.prog 191 ti191:=aq.of_facts _ Tryz.underlying191 ⟨_,_,_,rfl⟩ Tryz.t191 (by kernel_rfl) rfl rfl _ rfl (by kernel_rfl) (by kernel_rfl) (by kernel_rfl) rfl (by kernel_rfl)
def ti192:TI:= {u:= .func,size:=1,bytes:=8,zero:=[.nilFunc],plain:=false,conc:=true}
theorem tg192:aq Tryz.prog 192 ti192:=aq.of_facts _ Tryz.underlying192 ⟨_,_,_,rfl⟩ Tryz.t192 (by kernel_rfl) rfl rfl _ rfl (by kernel_rfl) (by kernel_rfl) (by kernel_rfl) rfl (by kernel_rfl)
def ti194:TI:= {u:=(.struct [(0,9),(1,4),(2,191),(3,192)]),size:=4,bytes:=40,zero:=[.string ByteArray.empty,.bool false,.nilFunc,.nilFunc],plain:=false,conc:=true}
theorem tg194:aq Tryz.prog 194 ti194:=aq.of_facts _ Tryz.underlying194 ⟨_,rfl,rfl,by simp⟩ Tryz.t194 (by kernel_rfl) rfl rfl _ rfl (by kernel_rfl) (by kernel_rfl) (by kernel_rfl) rfl (by kernel_rfl)
def ti201:TI:= {u:=(.array 2 9),size:=2,bytes:=32,zero:=[.string ByteArray.empty,.string ByteArray.empty],plain:=false,conc:=true}
theorem tg201:aq Tryz.prog 201 ti201:=aq.of_facts _ Tryz.underlying201 rfl Tryz.t201 (by kernel_rfl) rfl rfl _ rfl (by kernel_rfl) (by kernel_rfl) (by kernel_rfl) rfl (by kernel_rfl)
def ti203:TI:= {u:=(.slice 201),size:=1,bytes:=24,zero:=[.slice none 0 0],plain:=false,conc:=true}
theorem tg203:aq Tryz.prog 203 ti203:=aq.of_facts _ Tryz.underlying203 rfl Tryz.t203 (by kernel_rfl) rfl rfl _ rfl (by kernel_rfl) (by kernel_rfl) (by kernel_rfl) rfl (by kernel_rfl)
def ti211:TI:= {u:= .ptr,size:=1,bytes:=8,zero:=[.pointer none],plain:=false,conc:=true}
theorem tg211:aq Tryz.prog 211 ti211:=aq.of_facts _ Tryz.underlying211 ⟨_,rfl⟩ Tryz.t211 (by kernel_rfl) rfl rfl _ rfl (by kernel_rfl) (by kernel_rfl) (by kernel_rfl) rfl (by kernel_rfl)
def ti212:TI:= {u:=(.slice 5),size:=1,bytes:=24,zero:=[.slice none 0 0],plain:=false,conc:=true}
theorem tg212:aq Tryz.prog 212 ti212:=aq.of_facts _ Tryz.underlying212 rfl Tryz.t212 (by kernel_rfl) rfl rfl _ rfl (by kernel_rfl) (by kernel_rfl) (by kernel_rfl) rfl (by kernel_rfl)
def ti214:TI:= {u:=(.struct [(0,211),(1,212)]),size:=2,bytes:=32,zero:=[.pointer none,.slice none 0 0],plain:=false,conc:=true}
theorem tg214:aq Tryz.prog 214 ti214:=aq.of_facts _ Tryz.underlying214 ⟨_,rfl,rfl,by simp⟩ Tryz.t214 (by kernel_rfl) rfl rfl _ rfl (by kernel_rfl) (by kernel_rfl) (by kernel_rfl) rfl (by kernel_rfl)
def ti222:TI:= {u:=(.struct []),size:=0,bytes:=0,zero:=[],plain:=true,conc:=true}
theorem tg222:aq Tryz.prog 222 ti222:=aq.of_facts _ Tryz.underlying222 ⟨_,rfl,rfl,by simp⟩ Tryz.t222 (by kernel_rfl) rfl rfl _ rfl (by kernel_rfl) (by kernel_rfl) (by kernel_rfl) rfl (by kernel_rfl)
def ti224:TI:= {u:=(.struct [(0,61),(1,157)]),size:=2,bytes:=24,zero:=[.int .i64 (0),.nilIface],plain:=false,conc:=true}
theorem tg224:aq Tryz.prog 224 ti224:=aq.of_facts _ Tryz.underlying224 ⟨_,rfl,rfl,by simp⟩ Tryz.t224 (by kernel_rfl) rfl rfl _ rfl (by kernel_rfl) (by kernel_rfl) (by kernel_rfl) rfl (by kernel_rfl)
def ti226:TI:= {u:= .ptr,size:=1,bytes:=8,zero:=[.pointer none],plain:=false,conc:=true}
theorem tg226:aq Tryz.prog 226 ti226:=aq.of_facts _ Tryz.underlying226 ⟨_,rfl⟩ Tryz.t226 (by kernel_rfl) rfl rfl _ rfl (by kernel_rfl) (by kernel_rfl) (by kernel_rfl) rfl (by kernel_rfl)
def ti229:TI:= {u:=(.map 3 4),size:=1,bytes:=8,zero:=[.map none],plain:=false,conc:=true}
theorem tg229:aq Tryz.prog 229 ti229:=aq.of_facts _ Tryz.underlying229 rfl Tryz.t229 (by kernel_rfl) rfl rfl _ rfl (by kernel_rfl) (by kernel_rfl) (by kernel_rfl) rfl (by kernel_rfl)
def ti232:TI:= {u:= .func,size:=1,bytes:=8,zero:=[.nilFunc],plain:=false,conc:=true}
theorem tg232:aq Tryz.prog 232 ti232:=aq.of_facts _ Tryz.underlying232 ⟨_,_,_,rfl⟩ Tryz.t232 (by kernel_rfl) rfl rfl _ rfl (by kernel_rfl) (by kernel_rfl) (by kernel_rfl) rfl (by kernel_rfl)
def ti235:TI:= {u:= .func,size:=1,bytes:=8,zero:=[.nilFunc],plain:=false,conc:=true}
theorem tg235:aq Tryz.prog 235 ti235:=aq.of_facts _ Tryz.underlying235 ⟨_,_,_,rfl⟩ Tryz.t235 (by kernel_rfl) rfl rfl _ rfl (by kernel_rfl) (by kernel_rfl) (by kernel_rfl) rfl (by kernel_rfl)
def ti242:TI:= {u:=(.int .u32),size:=1,bytes:=4,zero:=[.int .u32 (0)],plain:=false,conc:=true}
theorem tg242:aq Tryz.prog 242 ti242:=aq.of_facts _ Tryz.underlying242 rfl Tryz.t242 (by kernel_rfl) rfl rfl _ rfl (by kernel_rfl) (by kernel_rfl) (by kernel_rfl) rfl (by kernel_rfl)
def ti256:TI:= {u:=(.struct [(0,67)]),size:=3,bytes:=40,zero:=[.string ByteArray.empty,.string ByteArray.empty,.bool false],plain:=true,conc:=true}
theorem tg256:aq Tryz.prog 256 ti256:=aq.of_facts _ Tryz.underlying256 ⟨_,rfl,rfl,by simp⟩ Tryz.t256 (by kernel_rfl) rfl rfl _ rfl (by kernel_rfl) (by kernel_rfl) (by kernel_rfl) rfl (by kernel_rfl)
def ti258:TI:= {u:= .func,size:=1,bytes:=8,zero:=[.nilFunc],plain:=false,conc:=true}
theorem tg258:aq Tryz.prog 258 ti258:=aq.of_facts _ Tryz.underlying258 ⟨_,_,_,rfl⟩ Tryz.t258 (by kernel_rfl) rfl rfl _ rfl (by kernel_rfl) (by kernel_rfl) (by kernel_rfl) rfl (by kernel_rfl)
def ti263:TI:= {u:=(.array 21 5),size:=21,bytes:=21,zero:=[.int .u8 (0),.int .u8 (0),.int .u8 (0),.int .u8 (0),.int .u8 (0),.int .u8 (0),.int .u8 (0),.int .u8 (0),.int .u8 (0),.int .u8 (0),.int .u8 (0),.int .u8 (0),.int .u8 (0),.int .u8 (0),.int .u8 (0),.int .u8 (0),.int .u8 (0),.int .u8 (0),.int .u8 (0),.int .u8 (0),.int .u8 (0)],plain:=false,conc:=true}
theorem tg263:aq Tryz.prog 263 ti263:=aq.of_facts _ Tryz.underlying263 rfl Tryz.t263 (by kernel_rfl) rfl rfl _ rfl (by kernel_rfl) (by kernel_rfl) (by kernel_rfl) rfl (by kernel_rfl)
def ti286:TI:= {u:=(.array 2 104),size:=2,bytes:=48,zero:=[.slice none 0 0,.slice none 0 0],plain:=false,conc:=true}
theorem tg286:aq Tryz.prog 286 ti286:=aq.of_facts _ Tryz.underlying286 rfl Tryz.t286 (by kernel_rfl) rfl rfl _ rfl (by kernel_rfl) (by kernel_rfl) (by kernel_rfl) rfl (by kernel_rfl)
def ti290:TI:= {u:= .func,size:=1,bytes:=8,zero:=[.nilFunc],plain:=false,conc:=true}
theorem tg290:aq Tryz.prog 290 ti290:=aq.of_facts _ Tryz.underlying290 ⟨_,_,_,rfl⟩ Tryz.t290 (by kernel_rfl) rfl rfl _ rfl (by kernel_rfl) (by kernel_rfl) (by kernel_rfl) rfl (by kernel_rfl)
def ti291:TI:= {u:=(.array 2 242),size:=2,bytes:=8,zero:=[.int .u32 (0),.int .u32 (0)],plain:=false,conc:=true}
theorem tg291:aq Tryz.prog 291 ti291:=aq.of_facts _ Tryz.underlying291 rfl Tryz.t291 (by kernel_rfl) rfl rfl _ rfl (by kernel_rfl) (by kernel_rfl) (by kernel_rfl) rfl (by kernel_rfl)
def tys:Tys:=[none,none,none,some ti3,some ti4,some ti5,none,none,none,some ti9,none,none,none,none,none,none,none,none,none,none,some ti20,none,some ti22,none,some ti24,none,some ti26,some ti27,none,some ti29,none,some ti31,some ti32,some ti33,none,some ti35,some ti36,some ti37,none,some ti39,none,none,some ti42,none,some ti44,none,some ti46,none,none,none,some ti50,none,some ti52,none,none,none,none,some ti57,some ti58,none,none,some ti61,none,some ti63,none,none,none,some ti67,none,none,none,none,none,none,some ti74,none,none,none,some ti78,none,none,none,none,none,none,none,none,none,some ti88,none,none,some ti91,none,none,some ti94,none,some ti96,none,none,none,some ti100,none,none,some ti103,some ti104,none,none,none,none,none,none,none,some ti112,none,none,none,none,none,none,none,none,none,none,none,none,none,none,none,none,none,none,none,some ti132,none,none,some ti135,none,none,none,none,none,none,some ti142,none,none,none,none,none,none,none,none,none,none,none,none,none,none,some ti157,none,none,none,none,some ti162,none,none,none,none,none,none,none,none,none,none,none,none,none,none,none,none,none,none,none,none,none,none,none,some ti186,none,none,none,some ti190,some ti191,some ti192,none,some ti194,none,none,none,none,none,none,some ti201,none,some ti203,none,none,none,none,none,none,none,some ti211,some ti212,none,some ti214,none,none,none,none,none,none,none,some ti222,none,some ti224,none,some ti226,none,none,some ti229,none,none,some ti232,none,none,some ti235,none,none,none,none,none,none,some ti242,none,none,none,none,none,none,none,none,none,none,none,none,none,some ti256,none,some ti258,none,none,none,none,some ti263,none,none,none,none,none,none,none,none,none,none,none,none,none,none,none,none,none,none,none,none,none,none,some ti286,none,none,none,some ti290,some ti291,none,none,none,none,none,none,none,none,none,none,none,none,none,none,none,none,none,none,none,none,none,none,none,none,none,none,none,none,none,none,none,none,none,none,none,none,none,none,none,none,none,none,none,none,none,none,none,none,none,none,none,none,none,none,none,none,none,none,none,none,none,none,none,none,none,none,none,none,none,none,none,none,none,none,none,none,none,none,none]
theorem ct:TyOk Tryz.prog tys:=tyOk_of ⟨tg3,tg4,tg5,tg9,tg20,tg22,tg24,tg26,tg27,tg29,tg31,tg32,tg33,tg35,tg36,tg37,tg39,tg42,tg44,tg46,tg50,tg52,tg57,tg58,tg61,tg63,tg67,tg74,tg78,tg88,tg91,tg94,tg96,tg100,tg103,tg104,tg112,tg132,tg135,tg142,tg157,tg162,tg186,tg190,tg191,tg192,tg194,tg201,tg203,tg211,tg212,tg214,tg222,tg224,tg226,tg229,tg232,tg235,tg242,tg256,tg258,tg263,tg286,tg290,tg291,trivial⟩
theorem mixed:Tryz.prog.follows .mixedOrders=true:=by kernel_rfl
end Go.Ab
namespace Go.Ab
open Go.RowKit
set_option linter.unusedVariables false
set_option linter.unusedSimpArgs false
section
variable {P:Program} {w:World}
open Lib
theorem run_append_str (t u ty e:TypeId) (i:TypeInfo) (ht:P.underlying t=some (.slice e)) (hu:P.underlying u=some .string) (hi:P.info? e=some i) (hz:i.zero=some (.int .u8 0))
 (hsize:i.size=1) (hby:i.bytes=1) (v:Value) (n:Nat) (xs:List Value) (hown:w.ownsRow 0 e 1 v n xs) (s:ByteArray) (hbytes:n+s.size≤140737488355328):
 ∃v' w',(Builtin.append_ #[t,u] ty #[v,.string s]).run P w= .ok v' w'∧w'.ownsRow 0 e 1 v' (n+s.size) (xs++strCells s)∧w.grownBy w' v.ownBlock∧(v'.ownBlock=v.ownBlock∨v'.ownBlock=some w.heap.size):=by
 have h63:n+s.size≤maxLen:=by simp only [maxLen];omega
 have hsmall:n+s.size≤9223372036854775807:=by omega
 have hxl:xs.length=n:=by simpa using hown.1
 have hlen:(xs++strCells s).length=(n+s.size)*1:=by rw [List.length_append,hxl,strCells_length,Nat.mul_one]
 have grown: ∀(old:Nat),old<n+s.size→ ∀(row:Option Nat),
  (w.drew.alloc (.cells (xs.toArray++(strCells s).toArray++Builtin.zeroCells (Value.int .u8 0).cells (grownCap w (n+s.size) old e - (n+s.size))) e)).ownsRow 0 e 1
    (.slice (some ⟨w.heap.size,0,none⟩) (n+s.size) (grownCap w (n+s.size) old e)) (n+s.size) (xs++strCells s)∧
  w.grownBy (w.drew.alloc (.cells (xs.toArray++(strCells s).toArray++Builtin.zeroCells (Value.int .u8 0).cells (grownCap w (n+s.size) old e - (n+s.size))) e)) row:=by
  intro old ho row
  have hge:=grownCap_ge w (n+s.size) old e
  have hcm:grownCap w (n+s.size) old e≤maxLen:=grownCap_le_maxLen w (n+s.size) old e h63
  refine ⟨⟨hlen,.inr ⟨w.heap.size,_,_,rfl,Nat.zero_le _,heap_alloc_new w.drew _,hge,hcm,?_,?_⟩⟩,⟨rfl,rfl,rfl,by simp,fun k hk _=>Lib.alloc_old w.drew _ k hk⟩⟩
  ·have hz1:(Value.int IntKind.u8 0).cells.size=1:=rfl
   simp only [Array.size_append,List.size_toArray,size_zeroCells,hz1,hxl,strCells_length]
   omega
  ·simp only [Array.toList_append,List.append_assoc]
   rw [←List.append_assoc,←hlen]
   exact List.take_left
 rcases hown.2 with ⟨rfl,rfl⟩|⟨g,cap,cur,rfl,hbg,hg,hnc,hcm,hcs,htake⟩
 ·have hx:xs=[]:=List.eq_nil_of_length_eq_zero hxl
  subst hx
  by_cases hm:s.size=0
  ·have hn:strCells s=[]:=List.eq_nil_of_length_eq_zero (by rw [strCells_length];exact hm)
   refine ⟨.slice none 0 0,w,?_,by rw [hm,hn];exact World.ownsRow_nil w 0 e 1,⟨rfl,rfl,rfl,Nat.le_refl _,fun _ _ _=>rfl⟩,.inl rfl⟩
   have hf:=run_firstCells_string (P:=P) w 1 s
   rw [hm] at hf
   simp [Builtin.append_,run_underlying ht,run_underlying hu,sizeOf,typeInfo,hi,hsize,Builtin.lenOf,hm,hf]
  ·have hr:=run_append_nil_string (P:=P) w t u ty e i (.int .u8 0) ht hu hi hz s (by omega) (by omega) (by rw [hby];omega)
   have hgr:=grown 0 (by omega) (Value.ownBlock (.slice none 0 0))
   simp only [Nat.zero_add,List.nil_append,Array.empty_append] at hgr⊢
   have e1:(s.data.map fun b=>Value.int .u8 b.toNat)=(strCells s).toArray:=by
    apply Array.ext'
    simp [strCells]
   rw [e1] at hr
   exact ⟨_,_,hr,hgr.1,hgr.2,.inr rfl⟩
 ·by_cases hroom:n+s.size≤cap
  ·have hr:=run_append_room_string (P:=P) w t u ty e i ht hu hi hsize g n cap cur hg s hroom (by omega)
   refine ⟨_,_,hr,⟨hlen,.inr ⟨g,cap,_,rfl,hbg,setRow_heap w g cur _ e _ hg,hroom,hcm,?_,?_⟩⟩,⟨rfl,rfl,rfl,by simp,fun k _ hk=>setRow_other w g k _ (fun e=>hk (by simp [Value.ownBlock,e]))⟩,.inl rfl⟩
   ·simp only [List.size_toArray,List.length_append,List.length_take,List.length_drop,Array.length_toList,strCells_length]
    omega
   ·have ht':cur.toList.take n=xs:=by simpa using htake
    rw [ht',←hlen]
    exact List.take_left
  ·have holds: ∀j u,xs[j]? =some u→w.cell? ((⟨g,0,none⟩:Addr).add j)=some u:=hown.cells (g:=g) rfl
   have hr:=run_append_grow_string (P:=P) w t u ty e i (.int .u8 0) ht hu hi hz ⟨g,0,none⟩ n cap xs (by rw [hsize];simpa using hxl) holds s (by omega) (by omega) (by rw [hby];exact growslice_fits (by omega) (by omega))
   have hgr:=grown cap (by omega) (Value.ownBlock (.slice (some ⟨g,0,none⟩) n cap))
   exact ⟨_,_,hr,hgr.1,hgr.2,.inr rfl⟩
theorem wpList_append_str {ops:Array Oper} {rest:List Oper} {o:Oper} {a:Act} {Q:Exit→Act→World→Prop} (hgd:o.guard=none) (sl x:Operand) (t u:TypeId)
 (ho:o.op= .call {callee:= .builtin .append,args:= #[sl,x],argTypes:= #[t,u]})
 (e:TypeId) (i:TypeInfo) (ht:P.underlying t=some (.slice e)) (hu:P.underlying u=some .string) (hi:P.info? e=some i) (hz:i.zero=some (.int .u8 0)) (hsize:i.size=1) (hby:i.bytes=1)
 (v:Value) (n:Nat) (xs:List Value) (hs:a.eval sl=v) (hown:w.ownsRow 0 e 1 v n xs) (s:ByteArray) (hx:a.eval x= .string s) (hbytes:n+s.size≤140737488355328)
 (h: ∀v' w',w'.ownsRow 0 e 1 v' (n+s.size) (xs++strCells s)→w.grownBy w' v.ownBlock→(v'.ownBlock=v.ownBlock∨v'.ownBlock=some w.heap.size)→wpList P ops Q rest (a.put o.dst v') w'):wpList P ops Q (o::rest) a w:=by
 refine wpList_plain hgd fun K hK=> ?_
 obtain ⟨v',w',hr,h2,h3,h4⟩:=run_append_str (P:=P) (w:=w) t u o.type e i ht hu hi hz hsize hby v n xs hown s hbytes
 unfold Oper.wp execOp
 simp only [ho,resolve,invoke,builtin,Sem.run_bind,Sem.run_pure,Result.andThen_ok,List.map_toArray,List.map_cons,List.map_nil,hs,hx,hr]
 exact hK _ _ (h v' w' h2 h3 h4)
end
section
variable {P:Program}
def toI (c:UInt8):Int:=(c.toNat:Int)
abbrev byteAV (n:Int):List AV:=[.v (.int .u8 n)]
theorem flat_bytes {w:World} {F:Nat→Prop} {l:List Int} {vs:List Value} (h:Flat w F 1 (l.map byteAV) vs):vs=l.map (Value.int .u8):=by
 have hl:vs.length=l.length:=by have:=h.1;simpa using this
 apply List.ext_getElem?
 intro i
 rw [List.getElem?_map]
 by_cases hi:i<l.length
 ·obtain ⟨y,hy,hr⟩:=h.2.2 i (byteAV l[i]) 0 (.v (.int .u8 l[i])) (by rw [List.getElem?_map,List.getElem?_eq_getElem hi];rfl) rfl
  have hy':vs[i]? =some y:=by simpa using hy
  rw [hy',hr.v_inv,List.getElem?_eq_getElem hi];rfl
 ·rw [List.getElem?_eq_none (by omega),List.getElem?_eq_none (by omega)];rfl
theorem bytes_flat (w:World) (F:Nat→Prop) (l:List Int):Flat w F 1 (l.map byteAV) (l.map (Value.int .u8)):=by
 refine ⟨by simp,fun i cs hi=> ?_,fun i cs j s hi hj=> ?_⟩
 ·rw [List.getElem?_map] at hi
  cases hg:l[i]? with
  |none=>rw [hg] at hi;cases hi
  |some z=>rw [hg] at hi;injection hi with hi;subst hi;exact ⟨rfl,rfl⟩
 ·rw [List.getElem?_map] at hi
  cases hg:l[i]? with
  |none=>rw [hg] at hi;cases hi
  |some z=>
   rw [hg] at hi;injection hi with hi;subst hi
   have hj0:j=0:=by have:=(List.getElem?_eq_some_iff.1 hj).1;simpa using this
   subst hj0
   simp at hj;subst hj
   exact ⟨.int .u8 z,by simp [hg],.v⟩
theorem strCells_bs (s:Str):Lib.strCells (bs s)=(s.map toI).map (Value.int .u8):=by
 unfold Lib.strCells bs toI
 simp
def BdAt (a:AV):Prop:=a= .v (.pointer none)∨a= .ptr 0 0
theorem callP_bwrite {g T el:Nat} (hc:Callable P g) (hC: ∀(b:Nat) (p v:Value) (n:Nat) (xs:List Value) (s:ByteArray) (w:World),(p= .pointer none∨p= .pointer (some ⟨b,0,none⟩))→w.heap[b]? =some (.cells #[p,v] T (0,0))→
 w.ownsRow 0 el 1 v n xs→v.ownBlock≠some b→n+s.size≤140737488355328→
 Calls P g #[.pointer (some ⟨b,0,none⟩),.string s] w fun e w'=>e= .returned (.tuple #[.int .i64 s.size,.nilIface])∧ ∃v',w'.heap[b]? =some (.cells #[.pointer (some ⟨b,0,none⟩),v'] T (0,0))∧
 w'.ownsRow 0 el 1 v' (n+s.size) (xs++Lib.strCells s)∧(v'.ownBlock=v.ownBlock∨v'.ownBlock=some w.heap.size)∧bV w w' (fun k=>k=b∨v.ownBlock=some k))
 {a0:AV} (h0:BdAt a0) (l:List Int) (s:Str) (hs:0<s.length∧l.length+s.length≤140737488355328):
 du P g [.var T [a0,.row 1 (l.map byteAV).length],.row el 1 (l.map byteAV)] [.ptr 0 0,.v (.string (bs s))] (fun r H'=>r= .tup [.v (.int .i64 (s.length:Int)),.v .nilIface]∧
  H'.take ([.var T [.ptr 0 0,.row 1 ((l++s.map toI).map byteAV).length],.row el 1 ((l++s.map toI).map byteAV)]:List Ob).length=[.var T [.ptr 0 0,.row 1 ((l++s.map toI).map byteAV).length],.row el 1 ((l++s.map toI).map byteAV)]):=by
 refine ⟨hc,fun C w F e vs M hr=> ?_⟩
 obtain ⟨hF,us,hb,hsz,hcell⟩:=M.heap.ob 0 _ rfl
 obtain ⟨hrl,hown⟩:=M.heap.ob 1 _ rfl
 have hlen:e.len=2:=M.heap.len
 have c0:=hcell 0 _ rfl
 have c1:=hcell 1 _ rfl
 have hrv: ∀z,ch w F e (.row 1 (l.map byteAV).length) z→z=e.rowv 1:=by
  intro z hz
  cases hz with
  |row _ _ hv=>exact hv.symm
  |rowold _ hn=>omega
 have hv1:us.getD 1 undef=e.rowv 1:=hrv _ c1
 have hus:us= #[us.getD 0 undef,e.rowv 1]:=by
  apply Array.ext
  ·simpa using hsz
  ·intro i h1 h2
   have hi2:i<2:=by simpa using h2
   match i,hi2 with
   |0,_=>simp [Array.getD_eq_getD_getElem?,Array.getElem?_eq_getElem h1]
   |1,_=>
    rw [Array.getD_eq_getD_getElem?,Array.getElem?_eq_getElem h1] at hv1
    simpa using hv1
 have hp:us.getD 0 undef= .pointer none∨us.getD 0 undef= .pointer (some ⟨e.blk 0,0,none⟩):=by
  rcases h0 with rfl|rfl
  ·exact .inl c0.v_inv
  ·exact .inr c0.ptr_inv.2
 obtain ⟨vals,hfl,hrow⟩:=hown.owns
 have hvals:=flat_bytes hfl
 subst hvals
 have hvs:vs= #[.pointer (some ⟨e.blk 0,0,none⟩),.string (bs s)]:=by
  obtain ⟨h1,h2⟩:=hr
  have a0:=(h2 0 _ rfl).ptr_inv.2
  have a1:=(h2 1 _ rfl).v_inv
  apply Array.ext
  ·simpa using h1
  ·intro i k1 k2
   have hi2:i<2:=by simpa using k2
   match i,hi2 with
   |0,_=>rw [Array.getD_eq_getD_getElem?,Array.getElem?_eq_getElem k1] at a0;simpa using a0
   |1,_=>rw [Array.getD_eq_getD_getElem?,Array.getElem?_eq_getElem k1] at a1;simpa using a1
 subst hvs
 have hne:(e.rowv 1).ownBlock≠some (e.blk 0):=by
  intro hx
  have h1:ap e [Ob.var T [a0,.row 1 (l.map byteAV).length],.row el 1 (l.map byteAV)] 0 (e.blk 0):=rfl
  have h2:=own_block (H:=[Ob.var T [a0,.row 1 (l.map byteAV).length],.row el 1 (l.map byteAV)]) (o:=1) rfl M hx
  exact absurd (M.heap.one _ _ _ h1 h2) (by decide)
 rw [hus] at hb
 have hbl:(bs s).size=s.length:=by have:=bs_size s;omega
 refine (hC (e.blk 0) _ _ _ _ (bs s) w hp hb hrow hne (by rw [hbl];simp only [List.length_map];exact hs.2)).mono ?_
 rintro en w' ⟨rfl,v',hb',hrow',hblk,T1⟩
 have hcells:l.map (Value.int .u8)++Lib.strCells (bs s)=(l++s.map toI).map (Value.int .u8):=by
  rw [List.map_append,strCells_bs]
 rw [hcells,hbl] at hrow'
 have hlt:0<e.len:=by omega
 have hbig: ∀b,F b→b<w.heap.size:=M.bound
 have hvF: ∀b,v'.ownBlock=some b→ ¬F b:=by
  intro k hk hFk
  rcases hblk with h|h
  ·rw [h] at hk
   rcases hown.2 with ⟨_,hx⟩|⟨k',c,vs',hx,hnF,_⟩
   ·rw [hx] at hk;cases hk
   ·rw [hx] at hk
    simp only [Value.ownBlock,Option.some.injEq] at hk
    subst hk;exact hnF hFk
  ·rw [h] at hk
   injection hk with hk
   have:=hbig k hFk
   omega
 have hOwn:cL w' F el 1 ((l++s.map toI).map byteAV) v':=cL.of_owns (bytes_flat w' F _) (by simpa using hrow') hvF
 have hblt:e.blk 0<w.heap.size:=by
  rcases Nat.lt_or_ge (e.blk 0) w.heap.size with h|h
  ·exact h
  ·rw [Array.getElem?_eq_none h] at hb;cases hb
 have hne':v'.ownBlock≠some (e.blk 0):=by
  rcases hblk with h|h
  ·rw [h];exact hne
  ·rw [h];intro hx;injection hx with hx;omega
 let e':Env:=e.setRow 1 ((l++s.map toI).map byteAV).length v'
 have er1:e'.rlen 1=((l++s.map toI).map byteAV).length:=show upd e.rlen 1 _ 1=_ from ba _ _ _
 have er2:e'.rowv 1=v':=show upd e.rowv 1 _ 1=_ from ba _ _ _
 obtain ⟨A',m',c',hvs⟩: ∃A m c,v'= .slice A m c:=by
  rcases hrow'.2 with ⟨hv,_⟩|⟨g,cap,cur,hv,_⟩
  ·exact ⟨_,_,_,hv⟩
  ·exact ⟨_,_,_,hv⟩
 have E:aH e e':=⟨Nat.le_refl _,fun _ _=>rfl,fun o ho=>by
  by_cases h1:o=1
  ·subst h1
   refine .inl ?_
   rw [er1,hrl]
   simp only [List.length_map,List.length_append];omega
  ·exact .inr ⟨cj _ _ _ h1,cj _ _ _ h1⟩⟩
 have hown0: ∀k,(k=e.blk 0∨(e.rowv 1).ownBlock=some k)→C.w0.heap.size≤k∨C.own0 k:=by
  rintro k (rfl|hk)
  ·exact M.ours 0 _ rfl
  ·exact M.ours 1 _ (own_block (o:=1) rfl M hk)
 have hkF: ∀k,(k=e.blk 0∨(e.rowv 1).ownBlock=some k)→ ¬F k:=by
  rintro k (rfl|hk) hFk
  ·exact hF hFk
  ·rcases hown.2 with ⟨_,hx⟩|⟨k',c,vs',hx,hnF,_⟩
   ·rw [hx] at hk;cases hk
   ·rw [hx] at hk
    simp only [Value.ownBlock,Option.some.injEq] at hk
    subst hk;exact hnF hFk
 have hOw: ∀o b,ap e' [Ob.var T [.ptr 0 0,.row 1 ((l++s.map toI).map byteAV).length],.row el 1 ((l++s.map toI).map byteAV)] o b→(o=0∧e.blk 0=b)∨(o=1∧v'.ownBlock=some b):=by
  intro o b ho
  unfold ap at ho
  match o with
  |0=>exact .inl ⟨rfl,ho⟩
  |1=>
   obtain ⟨n,c,hv⟩:=(show ∃n c,e'.rowv 1= .slice (some ⟨b,0,none⟩) n c from ho)
   rw [er2] at hv
   exact .inr ⟨rfl,by rw [hv];rfl⟩
  |o+2=>simp at ho
 refine ⟨_,_,[.var T [.ptr 0 0,.row 1 ((l++s.map toI).map byteAV).length],.row el 1 ((l++s.map toI).map byteAV)],F,e',rfl,⟨rfl,rfl⟩,?_,?_,E,⟨fun _ h=>h,fun b hb=>T1.block b (hbig b hb) (fun h=>hkF b h hb)⟩⟩
 ·refine ⟨⟨hlen,fun o x ho=> ?_,fun o o' b h1 h2=> ?_⟩,⟨T1.os.trans M.mod.os,T1.tape.trans M.mod.tape,T1.output.trans M.mod.output,Nat.le_trans M.mod.size T1.size,fun b hb1 hn=> ?_⟩,fun o b ho=> ?_,M.sub,fun b hb1=>Nat.lt_of_lt_of_le (M.bound b hb1) T1.size,M.fresh,M.env.trans E,M.g⟩
  ·match o,ho with
   |0,ho=>
    cases ho
    refine ⟨hF,_,hb',rfl,fun j s' hj=> ?_⟩
    match j,hj with
    |0,hj=>cases hj;exact .ptr hlt
    |1,hj=>
     cases hj
     show ch w' F e' (.row 1 _) v'
     rw [hvs]
     exact .row (show 1<e.len by omega) er1.symm (er2.trans hvs)
    |j+2,hj=>simp at hj
   |1,ho=>cases ho;exact ⟨er1,by rw [er2];exact hOwn⟩
   |o+2,ho=>simp at ho
  ·rcases hOw _ _ h1 with ⟨rfl,k1⟩|⟨rfl,k1⟩<;>rcases hOw _ _ h2 with ⟨rfl,k2⟩|⟨rfl,k2⟩
   ·rfl
   ·exact absurd (k1▸k2) hne'
   ·exact absurd (k2▸k1) hne'
   ·rfl
  ·rw [T1.block b (Nat.lt_of_lt_of_le hb1 M.mod.size) (fun h=> ?_)]
   ·exact M.mod.block b hb1 hn
   ·rcases hown0 b h with h|h
    ·omega
    ·exact hn h
  ·rcases hOw _ _ ho with ⟨rfl,k1⟩|⟨rfl,k1⟩
   ·exact hown0 b (.inl k1.symm)
   ·rcases hblk with h|h
    ·exact hown0 b (.inr (h▸k1))
    ·rw [h] at k1
     injection k1 with k1
     exact .inl (by rw [←k1];exact M.mod.size)
 ·refine .tup rfl (fun j s' hj=> ?_)
  match j,hj with
  |0,hj=>cases hj;rw [hbl];exact .v
  |1,hj=>cases hj;exact .v
  |j+2,hj=>simp at hj
abbrev byteU (c:UInt8):List AV:=[.v (.int .u8 (c.toNat:Int))]
theorem byteU_eq (t:Str):(t.map toI).map byteAV=t.map byteU:=by
 rw [List.map_map];rfl
theorem callP_bwrite' {g T el:Nat} (hc:Callable P g) (hC: ∀(b:Nat) (p v:Value) (n:Nat) (xs:List Value) (s:ByteArray) (w:World),(p= .pointer none∨p= .pointer (some ⟨b,0,none⟩))→w.heap[b]? =some (.cells #[p,v] T (0,0))→
 w.ownsRow 0 el 1 v n xs→v.ownBlock≠some b→n+s.size≤140737488355328→
 Calls P g #[.pointer (some ⟨b,0,none⟩),.string s] w fun e w'=>e= .returned (.tuple #[.int .i64 s.size,.nilIface])∧ ∃v',w'.heap[b]? =some (.cells #[.pointer (some ⟨b,0,none⟩),v'] T (0,0))∧
 w'.ownsRow 0 el 1 v' (n+s.size) (xs++Lib.strCells s)∧(v'.ownBlock=v.ownBlock∨v'.ownBlock=some w.heap.size)∧bV w w' (fun k=>k=b∨v.ownBlock=some k))
 {a0:AV} (h0:BdAt a0) (t s:Str) (hs:0<s.length∧t.length+s.length≤140737488355328):
 du P g [.var T [a0,.row 1 (t.map byteU).length],.row el 1 (t.map byteU)] [.ptr 0 0,.v (.string (bs s))] (fun r H'=>r= .tup [.v (.int .i64 (s.length:Int)),.v .nilIface]∧
  H'.take ([.var T [.ptr 0 0,.row 1 ((t++s).map byteU).length],.row el 1 ((t++s).map byteU)]:List Ob).length=[.var T [.ptr 0 0,.row 1 ((t++s).map byteU).length],.row el 1 ((t++s).map byteU)]):=by
 have h:=callP_bwrite hc hC h0 (t.map toI) s (by simpa using hs)
 rw [←List.map_append,byteU_eq,byteU_eq] at h
 exact h
theorem callP_bstring {g T el:Nat} (hc:Callable P g) (hC: ∀(b:Nat) (p v:Value) (l:List UInt8) (w:World),w.heap[b]? =some (.cells #[p,v] T (0,0))→w.ownsRow 0 el 1 v l.length (Lib.byteCells l)→l≠[]→
 Calls P g #[.pointer (some ⟨b,0,none⟩)] w fun e w'=>e= .returned (.string ⟨l.toArray⟩)∧w'.heap[b]? =some (.cells #[p,v] T (0,0))∧bV w w' (fun k=>v.ownBlock=some k))
 (a0:AV) (t:Str) (ht:0<t.length):
 du P g [.var T [a0,.row 1 (t.map byteU).length],.row el 1 (t.map byteU)] [.ptr 0 0] (fun r H'=>r= .v (.string (bs t))∧H'.take ([.gone,.gone]:List Ob).length=[.gone,.gone]):=by
 refine ⟨hc,fun C w F e vs M hr=> ?_⟩
 obtain ⟨hF,us,hb,hsz,hcell⟩:=M.heap.ob 0 _ rfl
 obtain ⟨hrl,hown⟩:=M.heap.ob 1 _ rfl
 have hlen:e.len=2:=M.heap.len
 have c1:=hcell 1 _ rfl
 have hrv: ∀z,ch w F e (.row 1 (t.map byteU).length) z→z=e.rowv 1:=by
  intro z hz
  cases hz with
  |row _ _ hv=>exact hv.symm
  |rowold _ hn=>omega
 have hv1:us.getD 1 undef=e.rowv 1:=hrv _ c1
 have hus:us= #[us.getD 0 undef,e.rowv 1]:=by
  apply Array.ext
  ·simpa using hsz
  ·intro i h1 h2
   have hi2:i<2:=by simpa using h2
   match i,hi2 with
   |0,_=>simp [Array.getD_eq_getD_getElem?,Array.getElem?_eq_getElem h1]
   |1,_=>
    rw [Array.getD_eq_getD_getElem?,Array.getElem?_eq_getElem h1] at hv1
    simpa using hv1
 obtain ⟨vals,hfl,hrow⟩:=hown.owns
 rw [←byteU_eq] at hfl
 have hvals:=flat_bytes hfl
 subst hvals
 have hvs:vs= #[.pointer (some ⟨e.blk 0,0,none⟩)]:=by
  obtain ⟨h1,h2⟩:=hr
  have a0:=(h2 0 _ rfl).ptr_inv.2
  apply Array.ext
  ·simpa using h1
  ·intro i k1 k2
   have hi2:i<1:=by simpa using k2
   match i,hi2 with
   |0,_=>rw [Array.getD_eq_getD_getElem?,Array.getElem?_eq_getElem k1] at a0;simpa using a0
 subst hvs
 rw [hus] at hb
 have hbc:(t.map toI).map (Value.int .u8)=Lib.byteCells t:=by
  unfold Lib.byteCells toI;rw [List.map_map];rfl
 refine (hC (e.blk 0) _ _ t w hb (by rw [←hbc];simpa using hrow) (List.length_pos_iff.1 ht)).mono ?_
 rintro en w' ⟨rfl,_,T1⟩
 have hown0: ∀k,(e.rowv 1).ownBlock=some k→C.w0.heap.size≤k∨C.own0 k:=fun k hk=>M.ours 1 _ (own_block (o:=1) rfl M hk)
 have hkF: ∀k,(e.rowv 1).ownBlock=some k→ ¬F k:=by
  intro k hk hFk
  rcases hown.2 with ⟨_,hx⟩|⟨k',c,vs',hx,hnF,_⟩
  ·rw [hx] at hk;cases hk
  ·rw [hx] at hk
   simp only [Value.ownBlock,Option.some.injEq] at hk
   subst hk;exact hnF hFk
 have hOw: ∀o b,¬ap e [Ob.gone,Ob.gone] o b:=by
  intro o b ho
  unfold ap at ho
  match o with
  |0=>exact ho
  |1=>exact ho
  |o+2=>simp at ho
 refine ⟨_,_,[.gone,.gone],F,e,rfl,⟨rfl,rfl⟩,?_,.v,aH.refl e,⟨fun _ h=>h,fun b hb=>T1.block b (M.bound b hb) (fun h=>hkF b h hb)⟩⟩
 refine ⟨⟨hlen,fun o x ho=> ?_,fun o o' b h1 h2=>absurd h1 (hOw _ _)⟩,⟨T1.os.trans M.mod.os,T1.tape.trans M.mod.tape,T1.output.trans M.mod.output,Nat.le_trans M.mod.size T1.size,fun b hb1 hn=> ?_⟩,fun o b ho=>absurd ho (hOw _ _),M.sub,fun b hb1=>Nat.lt_of_lt_of_le (M.bound b hb1) T1.size,M.fresh,M.env,M.g⟩
 ·match o,ho with
  |0,ho=>cases ho;trivial
  |1,ho=>cases ho;trivial
  |o+2,ho=>simp at ho
 ·rw [T1.block b (Nat.lt_of_lt_of_le hb1 M.mod.size) (fun h=> ?_)]
  ·exact M.mod.block b hb1 hn
  ·rcases hown0 b h with h|h
   ·omega
   ·exact hn h
theorem Flat.take {w:World} {F:Nat→Prop} {sz:Nat} {xs:List (List AV)} {vs:List Value} (h:Flat w F sz xs vs) (i:Nat):Flat w F sz (xs.take i) (vs.take (i*sz)):=by
 refine ⟨?_,fun k cs hk=> ?_,fun k cs j s hk hj=> ?_⟩
 ·rw [List.length_take,List.length_take,h.1,Nat.mul_min_mul_right]
 ·rw [List.getElem?_take] at hk
  split at hk
  ·exact h.2.1 k cs hk
  ·cases hk
 ·rw [List.getElem?_take] at hk
  split at hk
  ·rename_i hlt
   obtain ⟨y,hy,hr⟩:=h.2.2 k cs j s hk hj
   refine ⟨y,?_,hr⟩
   rw [List.getElem?_take_of_lt (idx_lt hlt (by rw [←(h.2.1 k cs hk).1];exact (List.getElem?_eq_some_iff.1 hj).1))]
   exact hy
  ·cases hk
theorem Flat.drop {w:World} {F:Nat→Prop} {sz:Nat} {xs:List (List AV)} {vs:List Value} (h:Flat w F sz xs vs) (i:Nat):Flat w F sz (xs.drop i) (vs.drop (i*sz)):=by
 refine ⟨?_,fun k cs hk=> ?_,fun k cs j s hk hj=> ?_⟩
 ·rw [List.length_drop,List.length_drop,h.1,Nat.sub_mul]
 ·rw [List.getElem?_drop] at hk
  exact h.2.1 _ cs hk
 ·rw [List.getElem?_drop] at hk
  obtain ⟨y,hy,hr⟩:=h.2.2 _ cs j s hk hj
  refine ⟨y,?_,hr⟩
  rw [List.getElem?_drop,←hy]
  congr 1
  rw [Nat.add_mul];omega
theorem callP_insert {g el sz bytes:Nat} (hc:Callable P g) (hC: ∀(v pv:Value) (n i:Nat) (xs p:List Value) (w:World),w.ownsRow 0 el sz v n xs→w.ownsRow 0 el sz pv 1 p→(∀b,v.ownBlock=some b→pv.ownBlock≠some b)→i<n→
 (n+1)*bytes≤140737488355328→(∀u∈xs,u.oneCell'=true)→(∀u∈p,u.oneCell'=true)→
 Calls P g #[v,.int .i64 i,pv] w fun e w'=> ∃v',e= .returned v'∧w'.ownsRow 0 el sz v' (n+1) (xs.take (i*sz)++p++xs.drop (i*sz))∧(v'.ownBlock=v.ownBlock∨v'.ownBlock=some w.heap.size)∧bV w w' (fun k=>v.ownBlock=some k))
 (xs:List (List AV)) (p:List AV) (i:Int) (hi:0≤i∧i<xs.length∧(xs.length+1)*bytes≤140737488355328):
 du P g [.row el sz xs,.row el sz [p]] [.row 0 xs.length,.v (.int .i64 i),.row 1 1] (fun r H'=>r= .row 0 (xs.take i.toNat++[p]++xs.drop i.toNat).length∧
  H'.take ([.row el sz (xs.take i.toNat++[p]++xs.drop i.toNat),.row el sz [p]]:List Ob).length=[.row el sz (xs.take i.toNat++[p]++xs.drop i.toNat),.row el sz [p]]):=by
 refine ⟨hc,fun C w F e vs M hr=> ?_⟩
 obtain ⟨hrl,hown⟩:=M.heap.ob 0 _ rfl
 obtain ⟨hrl1,hown1⟩:=M.heap.ob 1 _ rfl
 have hlen:e.len=2:=M.heap.len
 obtain ⟨vals,hfl,hrow⟩:=hown.owns
 obtain ⟨pvals,hpfl,hprow⟩:=hown1.owns
 have hrv: ∀o n z,n=e.rlen o→ch w F e (.row o n) z→z=e.rowv o:=by
  intro o n z hn hz
  cases hz with
  |row _ _ hv=>exact hv.symm
  |rowold _ hn'=>omega
 obtain ⟨iN,hiN⟩: ∃iN:Nat,i=iN:=⟨i.toNat,by omega⟩
 subst hiN
 have hvs:vs= #[e.rowv 0,.int .i64 iN,e.rowv 1]:=by
  obtain ⟨h1,h2⟩:=hr
  have a0:=hrv 0 _ _ hrl.symm (h2 0 _ rfl)
  have a1:=(h2 1 _ rfl).v_inv
  have a2:=hrv 1 _ _ hrl1.symm (h2 2 _ rfl)
  apply Array.ext
  ·simpa using h1
  ·intro i k1 k2
   have hi2:i<3:=by simpa using k2
   match i,hi2 with
   |0,_=>rw [Array.getD_eq_getD_getElem?,Array.getElem?_eq_getElem k1] at a0;simpa using a0
   |1,_=>rw [Array.getD_eq_getD_getElem?,Array.getElem?_eq_getElem k1] at a1;simpa using a1
   |2,_=>rw [Array.getD_eq_getD_getElem?,Array.getElem?_eq_getElem k1] at a2;simpa using a2
 subst hvs
 have hne: ∀b,(e.rowv 0).ownBlock=some b→(e.rowv 1).ownBlock≠some b:=by
  intro b hx hy
  have h1:=own_block (H:=[Ob.row el sz xs,.row el sz [p]]) (o:=0) rfl M hx
  have h2:=own_block (H:=[Ob.row el sz xs,.row el sz [p]]) (o:=1) rfl M hy
  exact absurd (M.heap.one _ _ _ h1 h2) (by decide)
 have hxl:vals.length=xs.length*sz:=hfl.1
 refine (hC (e.rowv 0) (e.rowv 1) xs.length iN vals pvals w hrow (by simpa using hprow) hne (by omega) hi.2.2 (flat_ones hfl) (flat_ones hpfl)).mono ?_
 rintro en w' ⟨v',rfl,hrow',hblk,T1⟩
 have hbig: ∀b,F b→b<w.heap.size:=M.bound
 have hkF: ∀k,(e.rowv 0).ownBlock=some k→ ¬F k:=by
  intro k hk hFk
  rcases hown.2 with ⟨_,hx⟩|⟨k',c,vs',hx,hnF,_⟩
  ·rw [hx] at hk;cases hk
  ·rw [hx] at hk
   simp only [Value.ownBlock,Option.some.injEq] at hk
   subst hk;exact hnF hFk
 have hvF: ∀b,v'.ownBlock=some b→ ¬F b:=by
  intro k hk hFk
  rcases hblk with h|h
  ·rw [h] at hk;exact hkF k hk hFk
  ·rw [h] at hk
   injection hk with hk
   have:=hbig k hFk
   omega
 have L:bS w F w' F:=⟨fun _ h=>h,fun b hb=>T1.block b (hbig b hb) (fun h=>hkF b h hb)⟩
 have hi':iN<xs.length:=by omega
 have hF1:Flat w' F sz (xs.take iN++[p]++xs.drop iN) (vals.take (iN*sz)++pvals++vals.drop (iN*sz)):=
  (((hfl.take iN).append hpfl).append (hfl.drop iN)).mono L
 have hyl:(xs.take iN++[p]++xs.drop iN).length=xs.length+1:=by
  simp only [List.length_append,List.length_take,List.length_drop,List.length_cons,List.length_nil];omega
 have hOwn:cL w' F el sz (xs.take iN++[p]++xs.drop iN) v':=cL.of_owns hF1 (by rw [hyl];exact hrow') hvF
 have hM:=M.growRow (o:=0) (ys:=xs.take iN++[p]++xs.drop iN) (x:=v') rfl (T:=⟨T1.os,T1.tape,T1.output,T1.size,fun b hb hn=>T1.block b hb (fun h=>hn (own_block (H:=[Ob.row el sz xs,.row el sz [p]]) (o:=0) rfl M h))⟩) hOwn
  (fun b hb=>by
    rcases hblk with h|h
    ·exact .inl (own_block (H:=[Ob.row el sz xs,.row el sz [p]]) (o:=0) rfl M (h▸hb))
    ·rw [h] at hb;injection hb with hb;exact .inr (by omega)) (.inl (by omega))
 obtain ⟨A',m',c',hvs⟩: ∃A m c,v'= .slice A m c:=by
  rcases hrow'.2 with ⟨hv,_⟩|⟨g,cap,cur,hv,_⟩
  ·exact ⟨_,_,_,hv⟩
  ·exact ⟨_,_,_,hv⟩
 have er1:(e.setRow 0 (xs.take iN++[p]++xs.drop iN).length v').rlen 0=(xs.take iN++[p]++xs.drop iN).length:=show upd e.rlen 0 _ 0=_ from ba _ _ _
 have er2:(e.setRow 0 (xs.take iN++[p]++xs.drop iN).length v').rowv 0=v':=show upd e.rowv 0 _ 0=_ from ba _ _ _
 have E:aH e (e.setRow 0 (xs.take iN++[p]++xs.drop iN).length v'):=⟨Nat.le_refl _,fun _ _=>rfl,fun o ho=>by
  by_cases h1:o=0
  ·subst h1
   refine .inl ?_
   rw [er1,hrl]
   omega
  ·exact .inr ⟨cj _ _ _ h1,cj _ _ _ h1⟩⟩
 refine ⟨_,_,[.row el sz (xs.take iN++[p]++xs.drop iN),.row el sz [p]],F,e.setRow 0 (xs.take iN++[p]++xs.drop iN).length v',rfl,⟨rfl,rfl⟩,hM,?_,E,L⟩
 have hR:ch w' F (e.setRow 0 (xs.take iN++[p]++xs.drop iN).length v') (.row 0 (xs.take iN++[p]++xs.drop iN).length) (.slice A' m' c'):= .row (show 0<e.len by omega) er1.symm (er2.trans hvs)
 rw [←hvs] at hR
 exact hR
end
section
variable {P:Program} {w:World}
theorem run_copy_rows (dT sT ty el sz g o dLen dCap n:Nat) (a:Addr) (sLen sCap:Nat) (news:List Value) (cur:Array Value) (t:TypeId)
 (hu:P.underlying dT=some (.slice el)) (hs:(P.info? el).map (·.size)=some sz) (hn:n=Nat.min sLen dLen) (hl:news.length=n*sz)
 (hg:w.heap[g]? =some (.cells cur t (0,0))) (hfit:o+n*sz≤cur.size) (hsrc: ∀j u,news[j]? =some u→w.cell? (a.add j)=some u) (h1: ∀u∈news,u.oneCell'=true):
 (Builtin.copy_ #[dT,sT] ty #[.slice (some ⟨g,o,none⟩) dLen dCap,.slice (some a) sLen sCap]).run P w= .ok (goInt n) (w.setRow g (cur.toList.take o++news++cur.toList.drop (o+n*sz)).toArray):=by
 have hld:=run_loadCells_list (P:=P) (w:=w) a news hsrc
 have hst:=run_storeCells_at P g o t news 0 cur w hg (by simpa [hl] using hfit) h1
 rw [hl] at hst hld
 cases hq:P.info? el with
 |none=>simp [hq] at hs
 |some i=>
  simp [hq] at hs
  simp [Builtin.copy_,run_underlying hu,Builtin.lenOf,Builtin.firstCells,sizeOf,typeInfo,hq,hs,←hn,hld,hst]
theorem wpList_copy_eq {ops:Array Oper} {rest:List Oper} {o:Oper} {a:Act} {Q:Exit→Act→World→Prop} (hgd:o.guard=none) (d s:Operand) (t t':TypeId)
 (ho:o.op= .call {callee:= .builtin .copy,args:= #[d,s],argTypes:= #[t,t']}) (v u:Value) (hd:a.eval d=v) (hs:a.eval s=u) {v':Value} {w':World}
 (hr:(Builtin.copy_ #[t,t'] o.type #[v,u]).run P w= .ok v' w') (h:wpList P ops Q rest (a.put o.dst v') w'):wpList P ops Q (o::rest) a w:=
 wpList_plain hgd fun K hK=>by
  unfold Oper.wp execOp
  simp only [ho,resolve,invoke,builtin,Sem.run_bind,Sem.run_pure,Result.andThen_ok,List.map_toArray,List.map_cons,List.map_nil,hd,hs,hr]
  exact hK _ _ h
theorem wpList_append_eq {ops:Array Oper} {rest:List Oper} {o:Oper} {a:Act} {Q:Exit→Act→World→Prop} (hgd:o.guard=none) (d s:Operand) (t t':TypeId)
 (ho:o.op= .call {callee:= .builtin .append,args:= #[d,s],argTypes:= #[t,t']}) (v u:Value) (hd:a.eval d=v) (hs:a.eval s=u) {v':Value} {w':World}
 (hr:(Builtin.append_ #[t,t'] o.type #[v,u]).run P w= .ok v' w') (h:wpList P ops Q rest (a.put o.dst v') w'):wpList P ops Q (o::rest) a w:=
 wpList_plain hgd fun K hK=>by
  unfold Oper.wp execOp
  simp only [ho,resolve,invoke,builtin,Sem.run_bind,Sem.run_pure,Result.andThen_ok,List.map_toArray,List.map_cons,List.map_nil,hd,hs,hr]
  exact hK _ _ h
theorem step_copy_eq {ops:Array Oper} {o:Oper} {a:Act} {K:Act→World→Prop} {Q:Exit→Act→World→Prop} {E:Prop}
 (hg:o.guard=none) (d x:Operand) (dT sT:TypeId) (hop:o.op=Op.call {callee:=Callee.builtin Builtin.copy,args:= #[d,x],argTypes:= #[dT,sT]})
 (v u:Value) (hd:a.eval d=v) (hx:a.eval x=u) {v':Value} {w':World} (hr:(Builtin.copy_ #[dT,sT] o.type #[v,u]).run P w= .ok v' w') (hK:K (a.put o.dst v') w'):
 if Region.wanted o (yielded ops a.tmps)=true then Oper.wp P o a w K Q else E:=by
 have hw:Region.wanted o (yielded ops a.tmps)=true:=by simp [Region.wanted,hg]
 rw [if_pos hw]
 unfold Oper.wp
 simp [execOp,hop,resolve,invoke,builtin,hd,hx,hr,Result.andThen]
 exact hK
end
section
variable {P:Program}
theorem callP_as {g T TP:Nat} (hc:Callable P g) {ev:AV} {x:Value} {cells:List AV} {vals:Array Value} {olds:List AV}
 (hC: ∀(b:Nat) (us:Array Value) (w:World),GW w→w.heap[b]? =some (.cells us T (0,0))→us.size=vals.size→
   Calls P g #[x,.iface TP (.pointer (some ⟨b,0,none⟩))] w fun e w'=>e= .returned (.bool true)∧w'.heap[b]? =some (.cells vals T (0,0))∧bV w w' (fun k=>k=b))
 (hx: ∀(w:World) (F:Nat→Prop) (e:Env) (v:Value),ch w F e ev v→v=x) (hl:olds.length=vals.size) (hl2:cells.length=vals.size)
 (hcell: ∀(w:World) (F:Nat→Prop) (e:Env) (j:Nat) (s:AV),cells[j]? =some s→ch w F e s (vals.getD j undef)):
 du P g [.var T olds] [ev,.ifc TP (.ptr 0 0)] (fun r H'=>r= .v (.bool true)∧H'.take ([.var T cells]:List Ob).length=[.var T cells]):=by
 refine ⟨hc,fun C w F e vs M hr=> ?_⟩
 obtain ⟨hF,us,hb,hsz,hcl⟩:=M.heap.ob 0 _ rfl
 have hlen:e.len=1:=M.heap.len
 have hvs:vs= #[x,.iface TP (.pointer (some ⟨e.blk 0,0,none⟩))]:=by
  obtain ⟨h1,h2⟩:=hr
  have a0:=hx _ _ _ _ (h2 0 _ rfl)
  have a1:vs.getD 1 undef= .iface TP (.pointer (some ⟨e.blk 0,0,none⟩)):=by
   have h:=h2 1 _ rfl
   generalize vs.getD 1 undef=z at h
   cases h with
   |ifc h'=>rw [h'.ptr_inv.2]
  apply Array.ext
  ·simpa using h1
  ·intro i k1 k2
   have hi2:i<2:=by simpa using k2
   match i,hi2 with
   |0,_=>rw [Array.getD_eq_getD_getElem?,Array.getElem?_eq_getElem k1] at a0;simpa using a0
   |1,_=>rw [Array.getD_eq_getD_getElem?,Array.getElem?_eq_getElem k1] at a1;simpa using a1
 subst hvs
 refine (hC (e.blk 0) us w M.gw hb (by omega)).mono ?_
 rintro en w' ⟨rfl,hb',T1⟩
 have hkF: ∀k,F k→k≠e.blk 0:=fun k hk h=>hF (h▸hk)
 have hown0:C.w0.heap.size≤e.blk 0∨C.own0 (e.blk 0):=M.ours 0 _ rfl
 have hOw: ∀o b,ap e [Ob.var T cells] o b→o=0∧e.blk 0=b:=by
  intro o b ho
  unfold ap at ho
  match o with
  |0=>exact ⟨rfl,ho⟩
  |o+1=>simp at ho
 refine ⟨_,_,[.var T cells],F,e,rfl,⟨rfl,rfl⟩,?_,.v,aH.refl e,⟨fun _ h=>h,fun b hb=>T1.block b (M.bound b hb) (hkF b hb)⟩⟩
 refine ⟨⟨hlen,fun o y ho=> ?_,fun o o' b h1 h2=>by rw [(hOw _ _ h1).1,(hOw _ _ h2).1]⟩,⟨T1.os.trans M.mod.os,T1.tape.trans M.mod.tape,T1.output.trans M.mod.output,Nat.le_trans M.mod.size T1.size,fun b hb1 hn=> ?_⟩,fun o b ho=> ?_,M.sub,fun b hb1=>Nat.lt_of_lt_of_le (M.bound b hb1) T1.size,M.fresh,M.env,M.g⟩
 ·match o,ho with
  |0,ho=>
   cases ho
   exact ⟨hF,_,hb',hl2.symm,fun j s hj=>hcell _ _ _ j s hj⟩
  |o+1,ho=>simp at ho
 ·rw [T1.block b (Nat.lt_of_lt_of_le hb1 M.mod.size) (fun h=> ?_)]
  ·exact M.mod.block b hb1 hn
  ·subst h
   rcases hown0 with h|h
   ·omega
   ·exact hn h
 ·rw [←(hOw _ _ ho).2];exact hown0
theorem callP_asnil {g:Nat} (hc:Callable P g) (hC: ∀(t:Value) (w:World),Calls P g #[.nilIface,t] w fun e w'=>e= .returned (.bool false)∧w'=w) (H:List Ob) (t:AV):
 du P g H [.v .nilIface,t] (fun r H'=>r= .v (.bool false)∧H'.take H.length=H):=by
 refine ⟨hc,fun C w F e vs M hr=> ?_⟩
 have hvs:vs= #[.nilIface,vs.getD 1 undef]:=by
  obtain ⟨h1,h2⟩:=hr
  have a0:=(h2 0 _ rfl).v_inv
  apply Array.ext
  ·simpa using h1
  ·intro i k1 k2
   have hi2:i<2:=by simpa using k2
   match i,hi2 with
   |0,_=>rw [Array.getD_eq_getD_getElem?,Array.getElem?_eq_getElem k1] at a0;simpa using a0
   |1,_=>simp [Array.getD_eq_getD_getElem?,Array.getElem?_eq_getElem k1]
 rw [hvs]
 refine (hC _ w).mono ?_
 rintro en w' ⟨rfl,rfl⟩
 exact ⟨_,_,H,F,e,rfl,⟨rfl,List.take_length⟩,M,.v,aH.refl e,bS.refl _ _⟩
end
end Go.Ab
namespace Go.Ab
set_option linter.unusedVariables false
set_option linter.unusedSimpArgs false
section
variable {P:Program} {w:World} {F:Nat→Prop} {e:Env}
theorem appc_sound {t el:TypeId} {te:TI} (ht:P.underlying t=some (.slice el)) (ge:aq P el te) (hz:0<te.size) (ty:TypeId) {xs ys:List (List AV)} {v x:Value} (hv:ch w F e (.slc xs) v) (hxs: ∀cs∈xs,cs.length=te.size) (hsrc:Src w F te.size ys x) (hy:ys≠[])
 (hb:(xs.length+ys.length)*te.bytes≤140737488355328) (hb0:0<te.bytes) (hFb: ∀b,F b→b<w.heap.size):
 ∃v' w',(Builtin.append_ #[t,t] ty #[v,x]).run P w= .ok v' w'∧cL w' F el te.size (xs++ys) v'∧w.grownBy w' none∧v'.ownBlock=some w.heap.size:=by
 cases hv with
 | @slc _ _ A c hc hr=>
 subst hc
 obtain ⟨A0,c0,olds,hA0,hxf,_,hold⟩:=(src_sl hr hxs).out
 injection hA0 with hA0 _ _
 subst hA0
 obtain ⟨A2,c2,news,rfl,hfl,hone,hcell⟩:=hsrc.out
 obtain ⟨a,rfl,hc⟩:=hcell hy
 obtain ⟨i,hi,hs,hby,z,hzz,hzc⟩:=ge.info
 have hzs:z.cells.size=te.size:=by rw [←Array.length_toList,hzc];exact ge.zlen
 have hlen:xs.length+ys.length≤140737488355328:=Nat.le_trans (Nat.le_mul_of_pos_right _ hb0) hb
 have hol:olds.length=xs.length*te.size:=hxf.1
 have hnl:news.length=ys.length*te.size:=hfl.1
 have hym:0<ys.length:=List.length_pos_iff.2 hy
 have h63:xs.length+ys.length≤maxLen:=by simp only [maxLen];omega
 have hll:(olds++news).length=(xs.length+ys.length)*te.size:=by rw [List.length_append,hol,hnl,Nat.add_mul]
 have grown:(w.drew.alloc (.cells (olds.toArray++news.toArray++Builtin.zeroCells z.cells (grownCap w (xs.length+ys.length) xs.length el - (xs.length+ys.length))) el)).ownsRow 0 el te.size
  (.slice (some ⟨w.heap.size,0,none⟩) (xs.length+ys.length) (grownCap w (xs.length+ys.length) xs.length el)) (xs.length+ys.length) (olds++news)∧
  w.grownBy (w.drew.alloc (.cells (olds.toArray++news.toArray++Builtin.zeroCells z.cells (grownCap w (xs.length+ys.length) xs.length el - (xs.length+ys.length))) el)) none:=by
  have hge:=grownCap_ge w (xs.length+ys.length) xs.length el
  have hcm:grownCap w (xs.length+ys.length) xs.length el≤maxLen:=grownCap_le_maxLen w (xs.length+ys.length) xs.length el h63
  refine ⟨⟨hll,.inr ⟨w.heap.size,_,_,rfl,Nat.zero_le _,heap_alloc_new w.drew _,hge,hcm,?_,?_⟩⟩,⟨rfl,rfl,rfl,by simp,fun k hk _=>heap_alloc_old w.drew _ hk⟩⟩
  ·simp only [Array.size_append,List.size_toArray,size_zeroCells,hzs,hol,hnl,←Nat.add_mul]
   congr 1
   omega
  ·simp only [Array.toList_append,List.append_assoc]
   rw [←List.append_assoc,←hll]
   exact List.take_left
 have fin: ∀(old:Option Addr),(Builtin.append_ #[t,t] ty #[.slice old xs.length xs.length,.slice (some a) ys.length c2]).run P w=
  .ok (.slice (some ⟨w.heap.size,0,none⟩) (xs.length+ys.length) (grownCap w (xs.length+ys.length) xs.length el)) (w.drew.alloc (.cells (olds.toArray++news.toArray++Builtin.zeroCells z.cells (grownCap w (xs.length+ys.length) xs.length el - (xs.length+ys.length))) el))→
  ∃v' w',(Builtin.append_ #[t,t] ty #[.slice old xs.length xs.length,.slice (some a) ys.length c2]).run P w= .ok v' w'∧cL w' F el te.size (xs++ys) v'∧w.grownBy w' none∧v'.ownBlock=some w.heap.size:=by
  intro old hrun
  obtain ⟨h1,h2⟩:=grown
  have L:bS w F _ F:=⟨fun _ h=>h,fun b hbF=>h2.block b (hFb b hbF) (fun hk=>by cases hk)⟩
  refine ⟨_,_,hrun,cL.of_owns ((hxf.mono L).append (hfl.mono L)) (by simpa using h1) (fun b hb' hF=> ?_),h2,rfl⟩
  simp only [Value.ownBlock,Option.some.injEq] at hb'
  subst hb'
  exact absurd (hFb _ hF) (by omega)
 cases A with
 |none=>
  have hx0:xs=[]:=by
   cases xs with
   |nil=>rfl
   |cons q r=>obtain ⟨b,hb2,_⟩:=hold (by simp);cases hb2
  subst hx0
  have ho:olds=[]:=List.eq_nil_of_length_eq_zero (by simpa using hol)
  subst ho
  refine fin none ?_
  have hr2:=run_append_nil (P:=P) w t ty el i z ht hi hzz a ys.length c2 news (by rw [hs];exact hnl) hc hym (by omega) (by rw [hby];simp only [List.length_nil,Nat.zero_add] at hb;omega)
  simp only [List.length_nil,Nat.zero_add]
  simpa using hr2
 |some b=>
  refine fin (some b) ?_
  have holds: ∀j u,olds[j]? =some u→w.cell? (b.add j)=some u:=by
   intro j u hj
   by_cases hx0:xs=[]
   ·subst hx0
    have ho:olds=[]:=List.eq_nil_of_length_eq_zero (by simpa using hol)
    subst ho;simp at hj
   ·obtain ⟨b2,hb2,h2⟩:=hold hx0
    injection hb2 with hb2
    subst hb2
    exact h2 j u hj
  exact run_append_grow (P:=P) w t ty el i z ht hi hzz b xs.length xs.length olds (by rw [hs];exact hol) holds a ys.length c2 news (by rw [hs];exact hnl) hc (by omega) (by omega) (by rw [hby];exact growslice_fits (by omega) hb)
end
section
variable {P:Program} {G:Gm} {S:St} {K:St→Prop} {o:Oper}
theorem OpP.appc {T el:TypeId} {te:TI} {A X:Operand} {xs ys:List (List AV)} (hG:TyOk P G.tys) (ho:o.op= .call {callee:= .builtin .append,args:= #[A,X],argTypes:= #[T,T]}) (hd:S.okD o.dst=true) (hA:S.ev A= .slc xs)
 (hT: ∃tl,ty G.tys T=some tl∧tl.u= .slice el) (hte:ty G.tys el=some te) (hz:(Nat.ble 1 te.size&&Nat.ble 1 te.bytes)=true) (hxs: ∀cs∈xs,cs.length=te.size) (hy:0<ys.length) (hb:(xs.length+ys.length)*te.bytes≤140737488355328)
 (hX:srcV S.heap te.size (S.ev X) fun zs=>zs=ys)
 (hK:putH S (S.heap++[.row el te.size (xs++ys)]) o.dst (.row S.heap.length (xs++ys).length) K):OpP P o S K:=by
 rw [putH_eq] at hK
 refine ⟨fun C a w F e Q h=> ?_⟩
 obtain ⟨tl,htl,hu⟩:=hT
 have hA':=h.here.ev A
 have hX':=h.here.ev X
 rw [hA] at hA'
 simp only [Bool.and_eq_true] at hz
 have hde:=(hG.get htl).slice hu
 have ge:=hG.get hte
 obtain ⟨zs,rfl,hsrc⟩:=src_sound h hX' hX
 obtain ⟨v',w',hr,h1,h2,h3⟩:=appc_sound hde ge (Nat.le_of_ble_eq_true hz.1) o.type (x:=a.eval X) hA' hxs hsrc (by intro hh;subst hh;simp at hy) hb (Nat.le_of_ble_eq_true hz.2) h.mem.bound
 have hcall:(execOp a.eval o).run P w= .ok (.value v') w':=by
  simp [execOp,ho,resolve,invoke,builtin,hr]
 have T':bV w w' (fun _=>False):=⟨h2.os,h2.tape,h2.output,h2.size,fun b hb hno=>h2.block b hb (fun hk=>by cases hk)⟩
 have M':=h.mem.pushRow (x:=v') (xs:=xs++zs) T' h1 (fun b hb=>by rw [h3] at hb;injection hb with hb;omega)
 refine goes_value hcall hK (h.next (h.mem.later (T'.mono (own':=ap e S.heap 0) fun _ h=>h.elim)) (aH.pushRow e _ _) M' ?_ hd)
 have hlt:S.heap.length<(e.pushRow (xs++zs).length v').len:=by show S.heap.length<e.len+1;rw [h.mem.heap.len];omega
 have hsl: ∃A' m cc,v'= .slice A' m cc:=by
  rcases h1.2 with ⟨_,hv'⟩|⟨b,cc,vs,hv',_⟩
  ·exact ⟨_,_,_,hv'⟩
  ·exact ⟨_,_,_,hv'⟩
 obtain ⟨A',m,cc,hv'⟩:=hsl
 have h5:(e.pushRow (xs++zs).length v').rowv S.heap.length= .slice A' m cc:=by simp only [Env.pushRow];rw [←h.mem.heap.len,ba];exact hv'
 have h6:(xs++zs).length=(e.pushRow (xs++zs).length v').rlen S.heap.length:=by simp only [Env.pushRow];rw [←h.mem.heap.len,ba]
 rw [hv'] at h5 h6 hlt⊢
 exact .row hlt h6 h5
end
section
variable {P:Program} {H:List Ob} {K:AV→List Ob→Prop}
theorem callP_insertc {g el sz bytes:Nat} (hc:Callable P g) (hC: ∀(b q n i:Nat) (pv:Value) (cs p:List Value) (w:World),i<n→(n+1)*bytes≤140737488355328→cs.length=n*sz→(∀j u,cs[j]? =some u→w.cell? ⟨b,q+j,none⟩=some u)→b<w.heap.size→
 w.ownsRow 0 el sz pv 1 p→(∀u∈cs,u.oneCell'=true)→(∀u∈p,u.oneCell'=true)→
 Calls P g #[.slice (some ⟨b,q,none⟩) n n,.int .i64 i,pv] w fun e w'=> ∃v',e= .returned v'∧w'.ownsRow 0 el sz v' (n+1) (cs.take (i*sz)++p++cs.drop (i*sz))∧v'.ownBlock=some w.heap.size∧bV w w' (fun _=>False))
 {xs:List (List AV)} {p:List AV} {i:Int} {op:Nat} (hi:0≤i∧i<xs.length∧(xs.length+1)*bytes≤140737488355328) (hxs: ∀cs∈xs,cs.length=sz) (hop:H[op]? =some (.row el sz [p]))
 (hK:K (.row H.length (xs.take i.toNat++[p]++xs.drop i.toNat).length) (H++[.row el sz (xs.take i.toNat++[p]++xs.drop i.toNat)])):du P g H [.slc xs,.v (.int .i64 i),.row op 1] K:=by
 refine ⟨hc,fun C w F e vs M hr=> ?_⟩
 obtain ⟨hrl1,hown1⟩:=M.heap.ob op _ hop
 obtain ⟨pvals,hpfl,hprow⟩:=hown1.owns
 obtain ⟨iN,hiN⟩: ∃iN:Nat,i=iN:=⟨i.toNat,by omega⟩
 subst hiN
 have hne:xs≠[]:=by rintro rfl;simp at hi;omega
 obtain ⟨x0,a0,hxs0⟩: ∃x0,vs= #[x0,.int .i64 iN,e.rowv op]∧ch w F e (.slc xs) x0:=by
  obtain ⟨h1,h2⟩:=hr
  have a0:=h2 0 _ rfl
  have a1:=(h2 1 _ rfl).v_inv
  have a2:vs.getD 2 undef=e.rowv op:=by
   have hz:=h2 2 _ rfl
   generalize vs.getD 2 undef=z at hz
   have hz':ch w F e (.row op 1) z:=hz
   cases hz' with
   |row _ _ hv=>exact hv.symm
   |rowold _ hn'=>simp only [List.length_cons,List.length_nil] at hrl1;omega
  refine ⟨vs.getD 0 undef,?_,a0⟩
  apply Array.ext
  ·simpa using h1
  ·intro i k1 k2
   have hi2:i<3:=by simpa using k2
   match i,hi2 with
   |0,_=>simp [Array.getD_eq_getD_getElem?,Array.getElem?_eq_getElem k1]
   |1,_=>rw [Array.getD_eq_getD_getElem?,Array.getElem?_eq_getElem k1] at a1;simpa using a1
   |2,_=>rw [Array.getD_eq_getD_getElem?,Array.getElem?_eq_getElem k1] at a2;simpa using a2
 subst a0
 cases hxs0 with
 | @slc _ _ A c hcc hr0=>
 subst hcc
 have hF: ∀b,F b→b<w.heap.size:=M.bound
 obtain ⟨A0,c0,olds,hA0,hxf,_,hold⟩:=(src_sl hr0 hxs).out
 injection hA0 with hA0 _ _
 subst hA0
 obtain ⟨a,rfl,hcell⟩:=hold hne
 have hol:olds.length=xs.length*sz:=hxf.1
 have hsp:F a.block∧a.spot=none:=by
  cases hr0 with
  |sl sz' a' vals hc hA _ _ _ _=>obtain ⟨h1,h2,h3⟩:=hA hne;injection h1 with h1;subst h1;exact ⟨h2,h3⟩
 obtain ⟨b,q,sp⟩:=a
 obtain ⟨hFb,rfl⟩:=hsp
 refine (hC b q xs.length iN (e.rowv op) olds pvals w (by omega) hi.2.2 hol (fun j u hj=>by have:=hcell j u hj;rwa [Addr.add_lit] at this) (hF _ hFb) (by simpa using hprow) (flat_ones hxf) (flat_ones hpfl)).mono ?_
 rintro en w' ⟨v',rfl,hrow',hblk,T1⟩
 have L:bS w F w' F:=⟨fun _ h=>h,fun b hb=>T1.block b (hF b hb) (fun h=>h)⟩
 have hF1:Flat w' F sz (xs.take iN++[p]++xs.drop iN) (olds.take (iN*sz)++pvals++olds.drop (iN*sz)):=
  (((hxf.take iN).append hpfl).append (hxf.drop iN)).mono L
 have hyl:(xs.take iN++[p]++xs.drop iN).length=xs.length+1:=by
  simp only [List.length_append,List.length_take,List.length_drop,List.length_cons,List.length_nil];omega
 have hOwn:cL w' F el sz (xs.take iN++[p]++xs.drop iN) v':=cL.of_owns hF1 (by rw [hyl];exact hrow') (fun b hb hFb=>by rw [hblk] at hb;injection hb with hb;have:=hF b hFb;omega)
 have M':=M.pushRow (x:=v') T1 hOwn (fun b hb=>by rw [hblk] at hb;injection hb with hb;omega)
 obtain ⟨A',m,cc,hv'⟩: ∃A' m cc,v'= .slice A' m cc:=by
  rcases hOwn.2 with ⟨_,hv'⟩|⟨b,cc,vs,hv',_⟩
  ·exact ⟨_,_,_,hv'⟩
  ·exact ⟨_,_,_,hv'⟩
 have hlt:H.length<(e.pushRow (xs.take iN++[p]++xs.drop iN).length v').len:=by show H.length<e.len+1;rw [M.heap.len];omega
 have h5:(e.pushRow (xs.take iN++[p]++xs.drop iN).length v').rowv H.length= .slice A' m cc:=by simp only [Env.pushRow];rw [←M.heap.len,ba];exact hv'
 have h6:(xs.take iN++[p]++xs.drop iN).length=(e.pushRow (xs.take iN++[p]++xs.drop iN).length v').rlen H.length:=by simp only [Env.pushRow];rw [←M.heap.len,ba]
 refine ⟨_,v',_,F,_,rfl,hK,M',?_,aH.pushRow e _ _,L⟩
 have hR:ch w' F (e.pushRow (xs.take iN++[p]++xs.drop iN).length v') (.row H.length (xs.take iN++[p]++xs.drop iN).length) (.slice A' m cc):= .row hlt h6 h5
 rw [←hv'] at hR
 exact hR
end
def unslc:AV→AV
 | .slc xs=>.sl xs
 |a=>a
theorem OpP.appcR {P:Program} {G:Gm} {S:St} {K:St→Prop} {o:Oper} {α:Type} (enc:α→List AV) (l y:List α) {T el:TypeId} {te:TI} {A X:Operand} {ox n:Nat} (hG:TyOk P G.tys) (ho:o.op= .call {callee:= .builtin .append,args:= #[A,X],argTypes:= #[T,T]}) (hd:S.okD o.dst=true) (hA:S.ev A= .slc (l.map enc)) (hX:S.ev X= .row ox n)
 (hT: ∃tl,ty G.tys T=some tl∧tl.u= .slice el) (hte:ty G.tys el=some te) (hz:(Nat.ble 1 te.size&&Nat.ble 1 te.bytes)=true) (hx:S.heap[ox]? =some (.row el te.size (y.map enc))) (hn:n=(y.map enc).length) (he: ∀a,(enc a).length=te.size) (hp:0<y.length∧(l.length+y.length)*te.bytes≤140737488355328)
 (hK:putH S (S.heap++[.row el te.size ((l++y).map enc)]) o.dst (.row S.heap.length ((l++y).map enc).length) K):OpP P o S K:=by
 refine OpP.appc hG ho hd hA hT hte hz (map_len he l) (ys:=y.map enc) (by simpa using hp.1) (by simpa using hp.2) ?_ (by rw [←List.map_append];exact hK)
 rw [hX]
 simp only [srcV,hx,Nat.beq_refl]
 exact ⟨hn,trivial⟩
def unslcs:List AV→List AV
 |[]=>[]
 |a::r=>unslc a::unslcs r
theorem unslc_rep {w:World} {F:Nat→Prop} {e:Env} {a:AV} {x:Value} (h:ch w F e a x):ch w F e (unslc a) x:=by
 cases a with
 |slc xs=>cases h with|slc hc h=>exact h
 |_=>exact h
theorem unslcs_len: ∀l:List AV,(unslcs l).length=l.length
 |[]=>rfl
 |a::r=>by simp [unslcs,unslcs_len r]
theorem unslcs_get: ∀(l:List AV) (j:Nat) (s:AV),(unslcs l)[j]? =some s→ ∃a,l[j]? =some a∧s=unslc a
 |[],j,s,h=>by simp [unslcs] at h
 |a::r,0,s,h=>⟨a,rfl,by simpa [unslcs] using h.symm⟩
 |a::r,j+1,s,h=>unslcs_get r j s (by simpa [unslcs] using h)
theorem du.unslc {P:Program} {g:FuncId} {H:List Ob} {args:List AV} {K:AV→List Ob→Prop} (h:du P g H (unslcs args) K):du P g H args K:=
 ⟨h.call,fun C w F e vs M hr=>h.run C w F e vs M ⟨by rw [unslcs_len];exact hr.1,fun j s hj=>by
   obtain ⟨a,ha,rfl⟩:=unslcs_get args j s hj
   exact unslc_rep (hr.2 j a ha)⟩⟩
def unnil1:AV→AV
 | .v x=>nrm x
 | .slc xs=>.sl xs
 |a=>a
def unnil:AV→AV
 | .agg cs=>.agg (cs.map unnil1)
 |a=>unnil1 a
theorem unnil1_rep {w:World} {F:Nat→Prop} {e:Env} {a:AV} {x:Value} (h:ch w F e a x):ch w F e (unnil1 a) x:=by
 cases a with
 |slc xs=>cases h with|slc hc h=>exact h
 |v y=>rw [h.v_inv];exact nrm_rep y
 |_=>exact h
theorem unnil_rep {w:World} {F:Nat→Prop} {e:Env} {a:AV} {x:Value} (h:ch w F e a x):ch w F e (unnil a) x:=by
 cases a with
 |agg cs=>
  cases h with
  |agg h1 h2=>
   refine .agg (by simpa using h1) fun j s hj=> ?_
   rw [List.getElem?_map] at hj
   cases hc:cs[j]? with
   |none=>rw [hc] at hj;cases hj
   |some c=>rw [hc] at hj;cases hj;exact unnil1_rep (h2 j c hc)
 |_=>exact unnil1_rep h
theorem du.unnil {P:Program} {g:FuncId} {H:List Ob} {args:List AV} {K:AV→List Ob→Prop} (h:du P g H (args.map unnil) K):du P g H args K:=
 ⟨h.call,fun C w F e vs M hr=>h.run C w F e vs M ⟨by rw [List.length_map];exact hr.1,fun j s hj=>by
   rw [List.getElem?_map] at hj
   cases hc:args[j]? with
   |none=>rw [hc] at hj;cases hj
   |some c=>rw [hc] at hj;cases hj;exact unnil_rep (hr.2 j c hc)⟩⟩
end Go.Ab
