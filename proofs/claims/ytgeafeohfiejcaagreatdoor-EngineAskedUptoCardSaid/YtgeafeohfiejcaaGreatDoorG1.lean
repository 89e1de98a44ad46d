/- The abstract states over which the walks of this claim run: what a register, a variable in memory and an owned row hold, told without addresses; and what it means that a world holds them. and what follows it, up to: What is ours changes: one object at a time. -/
import Derived.Calls
import Derived.Laws.World
import Derived.Laws.AppendOwn
import Derived.Maps.AppendAt
import Derived.WalkKit
import Derived.Laws.StructEq
import Derived.Laws.Build
import Derived.Laws.Rows
import Derived.Below
namespace Go.Ab
set_option linter.unusedVariables false
inductive AV where
 |v (x:Value)
 |sl (xs:List (List AV))
 |slc (xs:List (List AV))
 |ptr (o off:Nat)
 |row (o n:Nat)
 |rptr (o n sz i off:Nat)
 |vw (o n sz lo hi:Nat)
 |eptr (cs:List AV)
 |fn (f:Fn) (first caps:List AV)
 |ifc (t:TypeId) (x:AV)
 |agg (cs:List AV)
 |tup (vs:List AV)
 |mp (o:Nat)
 |dead
 deriving Inhabited
def AV.one:AV→Bool
 | .v x=>x.oneCell'
 | .agg _=>false
 | .tup _=>false
 | .dead=>false
 |_=>true
def ones (cs:List AV):Bool:=cs.all AV.one
structure Env where
 len:Nat
 blk:Nat→Nat
 rlen:Nat→Nat
 rowv:Nat→Value
def Env.nil:Env:=⟨0,fun _=>0,fun _=>0,fun _=>undef⟩
inductive ch (w:World) (F:Nat→Prop):Env→AV→Value→Prop
 |v {e x}:ch w F e (.v x) x
 |sl {e xs A c} (sz:Nat) (a:Addr) (vals:Nat→Nat→Value)
   (hc:xs.length≤c)
   (hA:xs≠[]→A=some a∧F a.block∧a.spot=none)
   (hsz: ∀(i:Nat) (cs:List AV),xs[i]? =some cs→cs.length=sz)
   (hone: ∀(i:Nat) (cs:List AV),xs[i]? =some cs→ones cs=true)
   (hcell: ∀(i:Nat) (cs:List AV) (j:Nat) (s:AV),xs[i]? =some cs→cs[j]? =some s→w.cell? ⟨a.block,a.off+i*sz+j,none⟩=some (vals i j))
   (hrep: ∀(i:Nat) (cs:List AV) (j:Nat) (s:AV),xs[i]? =some cs→cs[j]? =some s→ch w F Env.nil s (vals i j)):ch w F e (.sl xs) (.slice A xs.length c)
 |slc {e xs A c} (hc:c=xs.length) (h:ch w F e (.sl xs) (.slice A xs.length c)):ch w F e (.slc xs) (.slice A xs.length c)
 |ptr {e o off} (h:o<e.len):ch w F e (.ptr o off) (.pointer (some ⟨e.blk o,off,none⟩))
 |row {e o n A m c} (h:o<e.len) (hn:n=e.rlen o) (hv:e.rowv o= .slice A m c):ch w F e (.row o n) (.slice A m c)
 |rowold {e o n A m c} (h:o<e.len) (hn:n<e.rlen o):ch w F e (.row o n) (.slice A m c)
 |rptr {e o n sz i off b m c} (h:o<e.len) (hn:n=e.rlen o) (hv:e.rowv o= .slice (some ⟨b,0,none⟩) m c):ch w F e (.rptr o n sz i off) (.pointer (some ⟨b,i*sz+off,none⟩))
 |rptrold {e o n sz i off a} (h:o<e.len) (hn:n<e.rlen o):ch w F e (.rptr o n sz i off) (.pointer a)
 |vw {e o n sz lo hi b m c off} (h:o<e.len) (hn:n=e.rlen o) (hv:e.rowv o= .slice (some ⟨b,0,none⟩) m c) (hle:lo≤hi) (hhi:hi≤n) (h0:0<n) (hoff:lo<c→off=lo*sz):ch w F e (.vw o n sz lo hi) (.slice (some ⟨b,off,none⟩) (hi - lo) (c - lo))
 |vwold {e o n sz lo hi A m c} (h:o<e.len) (hn:n<e.rlen o):ch w F e (.vw o n sz lo hi) (.slice A m c)
 |eptr {e cs} (a:Addr) (vals:Nat→Value) (hF:F a.block) (ha:a.spot=none)
   (hcell: ∀(j:Nat) s,cs[j]? =some s→w.cell? ⟨a.block,a.off+j,none⟩=some (vals j))
   (hrep: ∀(j:Nat) s,cs[j]? =some s→ch w F Env.nil s (vals j)):ch w F e (.eptr cs) (.pointer (some a))
 |fn {e f first caps fs cs} (h1:fs.size=first.length) (h2:cs.size=caps.length)
   (r1: ∀(j:Nat) s,first[j]? =some s→ch w F e s (fs.getD j undef))
   (r2: ∀(j:Nat) s,caps[j]? =some s→ch w F e s (cs.getD j undef)):ch w F e (.fn f first caps) (.func f fs cs)
 |ifc {e t s x} (h:ch w F e s x):ch w F e (.ifc t s) (.iface t x)
 |agg {e cs vs} (h:vs.size=cs.length) (r: ∀(j:Nat) s,cs[j]? =some s→ch w F e s (vs.getD j undef)):ch w F e (.agg cs) (.agg vs)
 |tup {e cs vs} (h:vs.size=cs.length) (r: ∀(j:Nat) s,cs[j]? =some s→ch w F e s (vs.getD j undef)):ch w F e (.tup cs) (.tuple vs)
 |mp {e o} (h:o<e.len):ch w F e (.mp o) (.map (some (e.blk o)))
 |dead {e x}:ch w F e .dead x
structure bS (w:World) (F:Nat→Prop) (w':World) (F':Nat→Prop):Prop where
 sub: ∀b,F b→F' b
 same: ∀b,F b→w'.heap[b]? =w.heap[b]?
structure aH (e e':Env):Prop where
 len:e.len≤e'.len
 blk: ∀o,o<e.len→e'.blk o=e.blk o
 row: ∀o,o<e.len→e.rlen o<e'.rlen o∨(e'.rlen o=e.rlen o∧e'.rowv o=e.rowv o)
theorem aH.refl (e:Env):aH e e:=⟨Nat.le_refl _,fun _ _=>rfl,fun _ _=>.inr ⟨rfl,rfl⟩⟩
theorem aH.trans {a b c:Env} (h:aH a b) (k:aH b c):aH a c:=by
 refine ⟨Nat.le_trans h.len k.len,fun o ho=>(k.blk o (Nat.lt_of_lt_of_le ho h.len)).trans (h.blk o ho),fun o ho=> ?_⟩
 have h1:=h.row o ho
 have k1:=k.row o (Nat.lt_of_lt_of_le ho h.len)
 rcases h1 with h1|⟨h1,h2⟩<;>rcases k1 with k1|⟨k1,k2⟩
 ·exact .inl (by omega)
 ·exact .inl (by omega)
 ·exact .inl (by omega)
 ·exact .inr ⟨by omega,k2.trans h2⟩
theorem aH.nil (e:Env):aH Env.nil e:=⟨Nat.zero_le _,fun o h=>absurd h (Nat.not_lt_zero _),fun o h=>absurd h (Nat.not_lt_zero _)⟩
theorem bS.refl (w:World) (F:Nat→Prop):bS w F w F:=⟨fun _ h=>h,fun _ _=>rfl⟩
theorem bS.trans {w1 w2 w3:World} {F1 F2 F3:Nat→Prop} (h:bS w1 F1 w2 F2) (k:bS w2 F2 w3 F3):bS w1 F1 w3 F3:=
 ⟨fun b hb=>k.sub b (h.sub b hb),fun b hb=>(k.same b (h.sub b hb)).trans (h.same b hb)⟩
theorem bS.cell {w w':World} {F F':Nat→Prop} (h:bS w F w' F') {a:Addr} (ha:F a.block):w'.cell? a=w.cell? a:=by
 unfold World.cell?
 rw [h.same _ ha]
theorem ch.mono {w w':World} {F F':Nat→Prop} (L:bS w F w' F') {e:Env} {s:AV} {x:Value} (h:ch w F e s x): ∀ {e':Env},aH e e'→ch w' F' e' s x:=by
 induction h with
 |v=>intro e' _;exact .v
 | @sl e xs A c sz a vals hc hA hsz hone hcell hrep ih=>
   intro e' _
   refine .sl sz a vals hc (fun h=>⟨(hA h).1,L.sub _ (hA h).2.1,(hA h).2.2⟩) hsz hone (fun i cs j s h1 h2=> ?_) (fun i cs j s h1 h2=>ih i cs j s h1 h2 (aH.refl _))
   have hne:xs≠[]:=by intro h;subst h;simp at h1
   rw [L.cell (a:=⟨a.block,a.off+i*sz+j,none⟩) (hA hne).2.1]
   exact hcell i cs j s h1 h2
 |slc hc h ih=>intro e' k;exact .slc hc (ih k)
 | @ptr e o off h=>
   intro e' k
   rw [←k.blk o h]
   exact .ptr (Nat.lt_of_lt_of_le h k.len)
 | @row e o n A m c h hn hv=>
   intro e' k
   rcases k.row o h with k1|⟨k1,k2⟩
   ·exact .rowold (Nat.lt_of_lt_of_le h k.len) (by omega)
   ·exact .row (Nat.lt_of_lt_of_le h k.len) (by omega) (k2.trans hv)
 | @rowold e o n A m c h hn=>
   intro e' k
   refine .rowold (Nat.lt_of_lt_of_le h k.len) ?_
   rcases k.row o h with k1|⟨k1,k2⟩<;>omega
 | @rptr e o n sz i off b m c h hn hv=>
   intro e' k
   rcases k.row o h with k1|⟨k1,k2⟩
   ·exact .rptrold (Nat.lt_of_lt_of_le h k.len) (by omega)
   ·exact .rptr (Nat.lt_of_lt_of_le h k.len) (by omega) (k2.trans hv)
 | @rptrold e o n sz i off a h hn=>
   intro e' k
   refine .rptrold (Nat.lt_of_lt_of_le h k.len) ?_
   rcases k.row o h with k1|⟨k1,k2⟩<;>omega
 | @vw e o n sz lo hi b m c off h hn hv hle hhi h0 hoff=>
   intro e' k
   rcases k.row o h with k1|⟨k1,k2⟩
   ·exact .vwold (Nat.lt_of_lt_of_le h k.len) (by omega)
   ·exact .vw (Nat.lt_of_lt_of_le h k.len) (by omega) (k2.trans hv) hle hhi h0 hoff
 | @vwold e o n sz lo hi A m c h hn=>
   intro e' k
   refine .vwold (Nat.lt_of_lt_of_le h k.len) ?_
   rcases k.row o h with k1|⟨k1,k2⟩<;>omega
 | @eptr e cs a vals hF ha hcell hrep ih=>
   intro e' _
   refine .eptr a vals (L.sub _ hF) ha (fun j s h=> ?_) (fun j s h=>ih j s h (aH.refl _))
   rw [L.cell (a:=⟨a.block,a.off+j,none⟩) hF]
   exact hcell j s h
 |fn h1 h2 r1 r2 ih1 ih2=>intro e' k;exact .fn h1 h2 (fun j s h=>ih1 j s h k) (fun j s h=>ih2 j s h k)
 |ifc h ih=>intro e' k;exact .ifc (ih k)
 |agg h r ih=>intro e' k;exact .agg h (fun j s hj=>ih j s hj k)
 |tup h r ih=>intro e' k;exact .tup h (fun j s hj=>ih j s hj k)
 | @mp e o h=>
   intro e' k
   rw [←k.blk o h]
   exact .mp (Nat.lt_of_lt_of_le h k.len)
 |dead=>intro e' _;exact .dead
inductive Ob where
 |var (T:TypeId) (cs:List AV)
 |row (el sz:Nat) (xs:List (List AV))
 |frz (sz:Nat) (xs:List (List AV))
 |ext (R:Obj→Prop)
 |gone
 deriving Inhabited
def cL (w:World) (F:Nat→Prop) (el sz:Nat) (xs:List (List AV)) (x:Value):Prop:=
 (∀(i:Nat) cs,xs[i]? =some cs→cs.length=sz∧ones cs=true)∧
 ((xs=[]∧x= .slice none 0 0)∨
  ∃b c vs,x= .slice (some ⟨b,0,none⟩) xs.length c∧ ¬F b∧w.heap[b]? =some (.cells vs el (0,0))∧vs.size=c*sz∧xs.length≤c∧c≤maxLen∧
   ∀(i:Nat) cs (j:Nat) s,xs[i]? =some cs→cs[j]? =some s→ ∃y,vs[i*sz+j]? =some y∧ch w F Env.nil s y)
def ObRep (w:World) (F:Nat→Prop) (e:Env) (o:Nat):Ob→Prop
 | .var T cs=> ¬F (e.blk o)∧ ∃vs,w.heap[e.blk o]? =some (.cells vs T (0,0))∧vs.size=cs.length∧ ∀(j:Nat) s,cs[j]? =some s→ch w F e s (vs.getD j undef)
 | .row el sz xs=>e.rlen o=xs.length∧cL w F el sz xs (e.rowv o)
 | .frz sz xs=>e.rlen o=xs.length∧(∀(i:Nat) (cs:List AV),xs[i]? =some cs→cs.length=sz)∧ch w F Env.nil (.sl xs) (e.rowv o)
 | .ext R=> ¬F (e.blk o)∧ ∃ob,w.heap[e.blk o]? =some ob∧R ob
 | .gone=>True
def ap (e:Env) (H:List Ob) (o b:Nat):Prop:=
 match H[o]? with
 |some (.var _ _)=>e.blk o=b
 |some (.row _ _ _)=> ∃n c,e.rowv o= .slice (some ⟨b,0,none⟩) n c
 |some (.ext _)=>e.blk o=b
 |_=>False
structure HRep (w:World) (F:Nat→Prop) (e:Env) (H:List Ob):Prop where
 len:e.len=H.length
 ob: ∀o b,H[o]? =some b→ObRep w F e o b
 one: ∀o o' b,ap e H o b→ap e H o' b→o=o'
structure St where
 n:Nat
 base:Nat
 regs:Nat→AV
 heap:List Ob
def GW (w:World):Prop:=w.cell? ⟨0,0,none⟩=some (.iface 302 (.agg #[.pointer (some ⟨1,157,none⟩)]))
def GN (b:Nat):Prop:=b≠0
structure Ctx where
 w0:World
 own0:Nat→Prop
 e0:Env
 F0:Nat→Prop
structure Mod (C:Ctx) (w:World):Prop where
 os:w.os=C.w0.os
 tape:w.tape=C.w0.tape
 output:w.output=C.w0.output
 size:C.w0.heap.size≤w.heap.size
 block: ∀b,b<C.w0.heap.size→ ¬C.own0 b→w.heap[b]? =C.w0.heap[b]?
structure GC (C:Ctx):Prop where
 gw:GW C.w0
 gn: ∀b,C.own0 b→GN b
theorem cell_pos {w:World} {v:Value} (h:w.cell? ⟨0,0,none⟩=some v):0<w.heap.size:=by
 rcases Nat.eq_zero_or_pos w.heap.size with h0|h0
 ·simp [World.cell?,h0] at h
 ·exact h0
theorem gw_same {w w':World} (h:GW w) (hs: ∀b,b<w.heap.size→ ¬GN b→w'.heap[b]? =w.heap[b]?):GW w':=by
 first
  |exact trivial
  |(have hl:0<w.heap.size:=cell_pos h
    have h1:w'.cell? ⟨0,0,none⟩=w.cell? ⟨0,0,none⟩:=World.cell?_of_block (hs 0 hl (by simp [GN]))
    unfold GW at*
    rw [h1];exact h)
theorem gn_new {w:World} (h:GW w) {b:Nat} (hb:w.heap.size≤b):GN b:=by
 first
  |exact trivial
  |(have hl:0<w.heap.size:=cell_pos h
    unfold GN
    omega)
theorem GC.at {C:Ctx} {w:World} (h:GC C) (m:Mod C w):GW w:=gw_same h.gw fun b hb hn=>m.block b hb fun ho=>hn (h.gn b ho)
structure Mem (C:Ctx) (H:List Ob) (w:World) (F:Nat→Prop) (e:Env):Prop where
 heap:HRep w F e H
 mod:Mod C w
 ours: ∀o b,ap e H o b→C.w0.heap.size≤b∨C.own0 b
 sub: ∀b,C.F0 b→F b
 bound: ∀b,F b→b<w.heap.size
 fresh: ∀b,F b→C.F0 b∨C.w0.heap.size≤b∨C.own0 b
 env:aH C.e0 e
 g:GC C
theorem Mem.gw {C:Ctx} {H:List Ob} {w:World} {F:Nat→Prop} {e:Env} (h:Mem C H w F e):GW w:=h.g.at h.mod
theorem Mem.gn {C:Ctx} {H:List Ob} {w:World} {F:Nat→Prop} {e:Env} (h:Mem C H w F e) {o b:Nat} (ho:ap e H o b):GN b:=(h.ours o b ho).elim (gn_new h.g.gw) (h.g.gn b)
structure Sat (C:Ctx) (S:St) (a:Act) (w:World) (F:Nat→Prop) (e:Env):Prop where
 defers:a.defers=[]
 size:a.tmps.size=S.n
 base:C.e0.len=S.base
 regs: ∀t,ch w F e (S.regs t) (a.tmps.getD t undef)
 mem:Mem C S.heap w F e
end Go.Ab
namespace Go.Ab
set_option linter.unusedVariables false
set_option linter.unusedSimpArgs false
inductive U where
 |int (k:IntKind)|bool|str|ptr|slice (e:TypeId)|array (n:Nat) (e:TypeId)|struct (fs:List (Nat×TypeId))|map (k e:TypeId)|func|iface|other
 deriving Inhabited
structure TI where
 u:U
 size:Nat
 bytes:Nat
 zero:List Value
 plain:Bool
 conc:Bool
 deriving Inhabited
def U.Fits:U→TypeDesc→Prop
 | .int k,d=>d= .int k
 | .bool,d=>d= .bool
 | .str,d=>d= .string
 | .ptr,d=> ∃e,d= .pointer e
 | .slice e,d=>d= .slice e
 | .array n e,d=>d= .array n e
 | .struct fs,d=> ∃gs:Array Field,d= .struct gs∧fs=gs.toList.map (fun g=>(g.offset,g.type))∧ ∀g∈gs.toList,g.name≠ "_"
 | .map k e,d=>d= .map k e
 | .func,d=> ∃a b c,d= .func a b c
 | .iface,d=> ∃ms,d= .interface ms
 | .other,_=>True
def U.agg:U→Bool
 | .array _ _=>true
 | .struct _=>true
 |_=>false
structure aq (P:Program) (t:TypeId) (ti:TI):Prop where
 und: ∃d,P.underlying t=some d∧ti.u.Fits d
 info: ∃i,P.info? t=some i∧i.size=ti.size∧i.bytes=ti.bytes∧ ∃z,i.zero=some z∧z.cells.toList=ti.zero
 plain:ti.plain=true→P.stoodInHeld t=false∧P.eqGuardType P.depth t=false
 conc:ti.conc=true→P.concrete t=true
 zlen:ti.zero.length=ti.size
 kids: ∀fs,ti.u= .struct fs→ ∀f∈fs,∃i,P.info? f.2=some i
abbrev Tys:=List (Option TI)
def TyOk (P:Program) (G:Tys):Prop:= ∀(t:Nat) ti,G[t]? =some (some ti)→aq P t ti
def ty (G:Tys) (t:TypeId):Option TI:=(G[t]?).getD none
theorem TyOk.get {P:Program} {G:Tys} (h:TyOk P G) {t:TypeId} {ti:TI} (e:ty G t=some ti):aq P t ti:=by
 refine h t ti ?_
 unfold ty at e
 cases hg:G[t]? with
 |none=>rw [hg] at e;cases e
 |some x=>rw [hg] at e;simp at e;rw [e]
theorem aq.agg {P:Program} {t:TypeId} {ti:TI} (h:aq P t ti) (ho:ti.u.agg=true) (w:World):(isAgg t).run P w= .ok true w:=by
 obtain ⟨d,hd,hf⟩:=h.und
 unfold isAgg
 rw [Sem.run_bind,run_underlying hd w]
 cases hu:ti.u<;>rw [hu] at ho hf<;>simp only [U.agg,Bool.false_eq_true] at ho<;>simp only [U.Fits] at hf
 ·subst hf;rfl
 ·obtain ⟨gs,rfl,_⟩:=hf;rfl
def U.known:U→Bool
 | .other=>false
 |_=>true
theorem aq.notagg {P:Program} {t:TypeId} {ti:TI} (h:aq P t ti) (ho:ti.u.agg=false) (hk:ti.u.known=true) (w:World):(isAgg t).run P w= .ok false w:=by
 obtain ⟨d,hd,hf⟩:=h.und
 unfold isAgg
 rw [Sem.run_bind,run_underlying hd w]
 cases hu:ti.u<;>rw [hu] at ho hf hk<;>simp only [U.agg,U.known,Bool.true_eq_false,Bool.false_eq_true] at ho hk<;>simp only [U.Fits] at hf
 all_goals first|(subst hf;rfl)|(obtain ⟨_,rfl⟩:=hf;rfl)|(obtain ⟨_,_,_,rfl⟩:=hf;rfl)
theorem aq.sizeOf {P:Program} {t:TypeId} {ti:TI} (h:aq P t ti) (w:World):(sizeOf t).run P w= .ok ti.size w:=by
 obtain ⟨i,hi,hs,_⟩:=h.info
 simp [Go.sizeOf,typeInfo,hi,hs]
theorem aq.zeroValue {P:Program} {t:TypeId} {ti:TI} (h:aq P t ti) (w:World): ∃z,(zeroValue t).run P w= .ok z w∧z.cells=ti.zero.toArray:=by
 obtain ⟨i,hi,hs,_,z,hz,hzz⟩:=h.info
 exact ⟨z,by simp [Go.zeroValue,typeInfo,hi,hz],by rw [←hzz]⟩
def ofConst:Value→AV
 | .agg cs=>.agg (cs.toList.map .v)
 | .func f fs cs=>if fs.size=0∧cs.size=0 then .fn f [] [] else .v (.func f fs cs)
 |x=>.v x
def St.ev (S:St):Operand→AV
 | .tmp t=>S.regs t
 | .const x=>ofConst x
 | .global _=>.dead
 | .func f=>.fn (.func f) [] []
theorem rep_ofConst {w:World} {F:Nat→Prop} {e:Env} (x:Value):ch w F e (ofConst x) x:=by
 unfold ofConst
 split
 ·rename_i cs
  refine .agg (by simp) (fun j s h=> ?_)
  rw [List.getElem?_map] at h
  cases hj:cs.toList[j]? with
  |none=>rw [hj] at h;cases h
  |some y=>
   rw [hj] at h
   simp at h
   subst h
   have hy:cs[j]? =some y:=by simpa using hj
   have:cs.getD j undef=y:=by simp [Array.getD_eq_getD_getElem?,hy]
   rw [this]
   exact .v
 ·split
  ·rename_i h
   exact .fn h.1 h.2 (fun j s h=>by simp at h) (fun j s h=>by simp at h)
  ·exact .v
 ·exact .v
structure Here (S:St) (a:Act) (w:World) (F:Nat→Prop) (e:Env):Prop where
 regs: ∀t,ch w F e (S.regs t) (a.tmps.getD t undef)
 heap:HRep w F e S.heap
 bound: ∀b,F b→b<w.heap.size
theorem Here.ev {S:St} {a:Act} {w:World} {F:Nat→Prop} {e:Env} (h:Here S a w F e) (x:Operand):ch w F e (S.ev x) (a.eval x):=by
 cases x with
 |tmp t=>exact h.regs t
 |const v=>exact rep_ofConst v
 |global g=>exact .dead
 |func f=>exact .fn rfl rfl (fun j s h=>by simp at h) (fun j s h=>by simp at h)
def Agree (X:Nat→Prop) (w w':World):Prop:= ∀b,b<w.heap.size→ ¬X b→w'.heap[b]? =w.heap[b]?
theorem Agree.refl {X:Nat→Prop} (w:World):Agree X w w:=fun _ _ _=>rfl
theorem Agree.cell {X:Nat→Prop} {w w':World} (h:Agree X w w') {a:Addr} (hx: ¬X a.block) {v:Value} (hc:w.cell? a=some v):w'.cell? a=some v:=by
 have hb:=World.block_lt_of_cell? w a hc
 unfold World.cell? at*
 rw [h _ hb hx];exact hc
def Yields1 (X:Nat→Prop) (P:Program) (o:Oper) (a:Act) (w:World) (x:Value):Prop:= ∀w',Agree X w w'→(execOp a.eval o).run P w'= .ok (.value x) w'
structure XOk (X F:Nat→Prop) (e:Env) (S:St) (op:Op):Prop where
 frz: ∀T A cs,op= .load T A→S.ev A= .eptr cs→ ∀b,F b→ ¬X b
 var: ∀T A o off,op= .load T A→S.ev A= .ptr o off→ ¬X (e.blk o)
 row: ∀T A o n sz i off,op= .load T A→S.ev A= .rptr o n sz i off→ ∀b,¬X b
 cnv: ∀s d A,op= .convert s d A→(∃x,S.ev A= .v x)∨ ∀b,¬X b
theorem XOk.none {F:Nat→Prop} {e:Env} {S:St} {op:Op}:XOk (fun _=>False) F e S op:=⟨fun _ _ _ _ _ _ _ h=>h,fun _ _ _ _ _ _ h=>h,fun _ _ _ _ _ _ _ _ _ _ h=>h,fun _ _ _ _=>.inr fun _ h=>h⟩
def readAV (ti:TI) (cs:List AV) (off:Nat):Option AV:=
 match ti.u.known with
 |true=>
  (match ti.u.agg with
  |true=>(match Nat.ble (off+ti.size) cs.length with|true=>some (.agg ((cs.drop off).take ti.size))|false=>none)
  |false=>cs[off]?)
 |false=>none
theorem cy {a:Addr} (ha:a.spot=none) (n:Nat):a.add n=⟨a.block,a.off+n,none⟩:=by
 unfold Addr.add
 split
 ·rename_i h;subst h;cases a;simp_all
 ·rfl
theorem read_sound {P:Program} {w:World} {F:Nat→Prop} {e:Env} {t:TypeId} {ti:TI} (g:aq P t ti) {cs:List AV} {off:Nat} {r:AV} (hr:readAV ti cs off=some r)
 (b k:Nat) (vals:Nat→Value) (hcell: ∀(j:Nat) s,cs[j]? =some s→w.cell? ⟨b,k+j,none⟩=some (vals j)) (hrep: ∀(j:Nat) s,cs[j]? =some s→ch w F e s (vals j)) {X:Nat→Prop} (hX: ¬X b):
 ∃x,ch w F e r x∧ ∀w',Agree X w w'→(loadVar t ⟨b,k+off,none⟩).run P w'= .ok x w':=by
 unfold readAV at hr
 split at hr
 case h_2=>cases hr
 rename_i hk
 split at hr
 ·rename_i ha
  split at hr
  case h_2=>cases hr
  rename_i hle
  replace hle:=Nat.le_of_ble_eq_true hle
  injection hr with hr
  subst hr
  refine ⟨.agg ((List.range ti.size).map fun j=>vals (off+j)).toArray,.agg (by simp;omega) (fun j s hj=> ?_),fun w' hw=> ?_⟩
  ·have hlt:j<ti.size:=by
    rcases Nat.lt_or_ge j ti.size with h|h
    ·exact h
    ·rw [List.getElem?_eq_none (by simp;omega)] at hj;cases hj
   have hj':cs[off+j]? =some s:=by
    rw [List.getElem?_take_of_lt hlt,List.getElem?_drop] at hj
    exact hj
   have hx:(List.map (fun j=>vals (off+j)) (List.range ti.size)).toArray.getD j undef=vals (off+j):=by
    simp [Array.getD_eq_getD_getElem?,hlt]
   rw [hx]
   exact hrep _ _ hj'
  ·unfold loadVar
   rw [Sem.run_bind,g.agg ha w']
   simp only [Result.andThen_ok,if_true,Sem.run_bind,g.sizeOf w']
   rw [run_loadCells w' ⟨b,k+off,none⟩ ti.size (fun j=>vals (off+j)) (fun j hj=> ?_)]
   ·rfl
   ·rw [cy rfl]
    have:off+j<cs.length:=by omega
    have:=hcell (off+j) _ (List.getElem?_eq_getElem this)
    rw [←Nat.add_assoc] at this
    exact hw.cell hX this
 ·rename_i ha
  refine ⟨vals off,hrep _ _ hr,fun w' hw=> ?_⟩
  unfold loadVar
  rw [Sem.run_bind,g.notagg (by simpa using ha) hk w']
  have:=hw.cell hX (hcell off r hr)
  simp [this]
end Go.Ab
namespace Go.Ab
set_option linter.unusedVariables false
structure Need (p:Prop) (k:Prop):Prop where
 h:p
 k:k
structure Re {α:Type} (x:α) (k:α→Prop):Prop where
 out: ∃z,z=x∧k z
theorem Re_eq {α:Type} (x:α) (k:α→Prop):Re x k=k x:=propext ⟨fun h=>let ⟨z,e,h⟩:=h.out;e▸h,fun h=>⟨⟨x,rfl,h⟩⟩⟩
structure Elem (xs:List (List AV)) (i:Nat) (k:List AV→Prop):Prop where
 out: ∃cs,xs[i]? =some cs∧k cs
def Chk (b:Bool) (k:Prop):Prop:=
 match b with
 |true=>k
 |false=>False
theorem Chk.elim {b:Bool} {k:Prop} (h:Chk b k):b=true∧k:=by
 cases b
 ·exact False.elim h
 ·exact ⟨rfl,h⟩
theorem Chk.eqn {m n:Nat} {k:Prop} (h:Chk (Nat.beq m n) k):m=n∧k:=⟨Nat.eq_of_beq_eq_true h.elim.1,h.elim.2⟩
theorem Chk.len {m n:Nat} {k:Prop} (h:Chk (Nat.ble m n) k):m≤n∧k:=⟨Nat.le_of_ble_eq_true h.elim.1,h.elim.2⟩
def kEq:IntKind→IntKind→Bool
 | .i8,.i8=>true
 | .i16,.i16=>true
 | .i32,.i32=>true
 | .i64,.i64=>true
 | .u8,.u8=>true
 | .u16,.u16=>true
 | .u32,.u32=>true
 | .u64,.u64=>true
 |_,_=>false
theorem kEq_eq {k k':IntKind} (h:kEq k k'=true):k=k':=by cases k<;>cases k'<;>simp_all [kEq]
def byteAt (s:ByteArray) (i:Nat):UInt8:=if h:i<s.size then s[i] else 0
def ltB (x y:ByteArray):Bool:=Op.bytesLess x.toList y.toList
def intV (op:BinOp) (k:IntKind) (a b:Int) (q:AV→Prop):Prop:=
 match op with
 | .add=>q (.v (.int k (k.wrap (a+b))))
 | .sub=>q (.v (.int k (k.wrap (a - b))))
 | .mul=>q (.v (.int k (k.wrap (a*b))))
 | .quo=>Need (b≠0)<|q (.v (.int k (k.wrap (a.tdiv b))))
 | .rem=>Need (b≠0)<|q (.v (.int k (a.tmod b)))
 | .and=>q (.v (.int k (k.wrap ((BitVec.ofInt k.bits a &&& BitVec.ofInt k.bits b).toNat:Int))))
 | .or=>q (.v (.int k (k.wrap ((BitVec.ofInt k.bits a ||| BitVec.ofInt k.bits b).toNat:Int))))
 | .eql=>q (.v (.bool (decide (a=b))))
 | .neq=>q (.v (.bool (!decide (a=b))))
 | .lss=>q (.v (.bool (decide (a<b))))
 | .leq=>q (.v (.bool (decide (a≤b))))
 | .gtr=>q (.v (.bool (decide (a>b))))
 | .geq=>q (.v (.bool (decide (a≥b))))
 |_=>False
def shiftV (op:BinOp) (k:IntKind) (a b:Int) (q:AV→Prop):Prop:=
 match op with
 | .shl=>Need (0≤b)<|q (.v (.int k (k.wrap (a*2^(min b.toNat k.bits)))))
 | .shr=>Need (0≤b)<|q (.v (.int k (a.fdiv (2^(min b.toNat k.bits)))))
 |_=>False
def strV (op:BinOp) (x y:ByteArray) (q:AV→Prop):Prop:=
 match op with
 | .add=>Need (x.size+y.size≤9223372036854775807)<|q (.v (.string (x++y)))
 | .eql=>q (.v (.bool (decide (x=y))))
 | .neq=>q (.v (.bool (!decide (x=y))))
 | .lss=>q (.v (.bool (ltB x y)))
 | .leq=>q (.v (.bool (ltB x y||decide (x=y))))
 | .gtr=>q (.v (.bool (!(ltB x y||decide (x=y)))))
 | .geq=>q (.v (.bool (!ltB x y)))
 |_=>False
def cellsT (ti:TI):AV→Option (List AV)
 | .agg cs=>if ti.u.agg then some cs else none
 |x=>if ti.u.agg then none else some [x]
mutual
def eqT (G:Tys):Nat→TypeId→List AV→List AV→Option Bool
 |0,_,_,_=>none
 |d+1,t,xs,ys=>
  match ty G t with
  |none=>none
  |some ti=>
   match ti.u,xs,ys with
   | .int _,[.v (.int k a)],[.v (.int k' b)]=>if k=k' then some (decide (a=b)) else none
   | .bool,[.v (.bool a)],[.v (.bool b)]=>some (a == b)
   | .str,[.v (.string a)],[.v (.string b)]=>some (decide (a=b))
   | .struct fs,xs,ys=>if ti.plain then eqFs G d fs xs ys else none
   |_,_,_=>none
def eqFs (G:Tys):Nat→List (Nat×TypeId)→List AV→List AV→Option Bool
 |_,[],_,_=>some true
 |0,_::_,_,_=>none
 |d+1,f::r,xs,ys=>
  match ty G f.2 with
  |none=>none
  |some ti=>
   match readAV ti xs f.1,readAV ti ys f.1 with
   |some a,some b=>
    match cellsT ti a,cellsT ti b with
    |some ca,some cb=>
     match eqT G d f.2 ca cb,eqFs G d r xs ys with
     |some p,some q=>some (p&&q)
     |_,_=>none
    |_,_=>none
   |_,_=>none
end
def eqlV (G:Tys) (kc:Bool) (T:TypeId) (x y:AV) (q:Bool→Prop):Prop:=
 match x,y with
 | .v (.bool a),.v (.bool b)=>(match ty G T with|some ti=>(match ti.u with| .bool=>q (a == b)|_=>False)|none=>False)
 | .agg xs,.agg ys=>
   (match ty G T with
   |some ti=>Chk (ti.u.agg&&ti.plain) (match eqT G 12 T xs ys with|some b=>q b|none=>False)
   |none=>False)
 | .sl xs,.v (.slice none 0 0)=>(match ty G T with|some ti=>(match ti.u with| .slice _=> ∀b,(b=true→xs=[])→q b|_=>False)|none=>False)
 | .v (.slice none 0 0),.v (.slice none 0 0)=>(match ty G T with|some ti=>(match ti.u with| .slice _=>q true|_=>False)|none=>False)
 | .ifc _ _,.v .nilIface=>(match ty G T with|some ti=>(match ti.u with| .iface=>q false|_=>False)|none=>False)
 | .v .nilIface,.v .nilIface=>(match kc,ty G T with|true,some ti=>(match ti.u with| .iface=>q true|_=>False)|_,_=>False)
 |_,_=>False
def isK:Operand→Bool
 | .const _=>true
 |_=>false
def binV (G:Tys) (kc:Bool) (op:BinOp) (T:TypeId) (x y:AV) (q:AV→Prop):Prop:=
 match op,x,y with
 | .shl,.v (.int k a),.v (.int _ b)=>shiftV .shl k a b q
 | .shr,.v (.int k a),.v (.int _ b)=>shiftV .shr k a b q
 |op,.v (.int k a),.v (.int k' b)=>Chk (kEq k k')<|intV op k a b q
 |op,.v (.string a),.v (.string b)=>strV op a b q
 | .eql,x,y=>eqlV G kc T x y fun b=>q (.v (.bool b))
 | .neq,x,y=>eqlV G kc T x y fun b=>q (.v (.bool (!b)))
 |_,_,_=>False
def unV (op:UnOp) (x:AV) (q:AV→Prop):Prop:=
 match op,x with
 | .not,.v (.bool b)=>q (.v (.bool (!b)))
 | .neg,.v (.int k n)=>q (.v (.int k (k.wrap (0 - n))))
 | .xor,.v (.int .u64 n)=>q (.v (.int .u64 (IntKind.u64.wrap ((BitVec.ofInt 64 18446744073709551615 ^^^ BitVec.ofInt 64 n).toNat:Int))))
 |_,_=>False
def pickV (c a b:AV) (q:AV→Prop):Prop:=
 match c with
 | .v (.bool c)=>
   (match a,b with
   | .v (.bool a),.v (.bool b)=>q (.v (.bool (bif c then a else b)))
   |a,b=>bif c then q a else q b)
 |_=>False
def loadV (S:St) (ti:TI) (x:AV) (q:AV→Prop):Prop:=
 match x with
 | .ptr o off=>(match S.heap[o]? with|some (.var _ cs)=>(match readAV ti cs off with|some r=>q r|none=>False)|_=>False)
 | .eptr cs=>(match readAV ti cs 0 with|some r=>q r|none=>False)
 | .rptr o n sz i off=>
   (match S.heap[o]? with
   |some (.row _ sz' xs)=>Chk (Nat.beq sz sz')<|Need (n=xs.length)<|Elem xs i fun cs=>(match readAV ti cs off with|some r=>q r|none=>False)
   |some (.frz sz' xs)=>Chk (Nat.beq sz sz')<|Need (n=xs.length)<|Elem xs i fun cs=>(match readAV ti cs off with|some r=>q r|none=>False)
   |_=>False)
 |_=>False
def fieldAddrV (G:Tys) (S:St) (T:TypeId) (x:AV) (f:Nat) (q:AV→Prop):Prop:=
 match ty G T with
 |some ti=>
  (match ti.u with
  | .struct fs=>
    (match fs[f]? with
    |some (off,ft)=>
     (match ty G ft with
     |some tf=>Chk (Nat.ble 1 tf.size)
      (match x with
      | .ptr o k=>q (.ptr o (k+off))
      | .eptr cs=>q (.eptr (cs.drop off))
      | .rptr o n sz i k=>(match S.heap[o]? with|some (.row _ _ xs)=>Need (n=xs.length)<|q (.rptr o n sz i (k+off))|_=>False)
      |_=>False)
     |none=>False)
    |none=>False)
  |_=>False)
 |none=>False
def fieldV (G:Tys) (T:TypeId) (x:AV) (f:Nat) (q:AV→Prop):Prop:=
 match ty G T with
 |some ti=>
  (match ti.u with
  | .struct fs=>
    (match fs[f]? with
    |some (off,ft)=>
     (match ty G ft,x with
     |some tf,.agg cs=>(match readAV tf cs off with|some r=>q r|none=>False)
     |_,_=>False)
    |none=>False)
  |_=>False)
 |none=>False
def indexAddrV (G:Tys) (S:St) (T:TypeId) (x i:AV) (q:AV→Prop):Prop:=
 match ty G T,i with
 |some ti,.v (.int _ n)=>
  (match ti.u with
  | .slice el=>
    (match ty G el with
    |some te=>
     (match x with
     | .sl xs=>Need (0≤n)<|Elem xs n.toNat fun cs=>Need (cs.length=te.size)<|q (.eptr cs)
     | .row o m=>
       (match S.heap[o]? with
       |some (.row _ sz xs)=>Chk (Nat.beq sz te.size)<|Need (m=xs.length∧0≤n∧n<(m:Int))<|q (.rptr o m sz n.toNat 0)
       |some (.frz sz xs)=>Chk (Nat.beq sz te.size)<|Need (m=xs.length∧0≤n∧n<(m:Int))<|Elem xs n.toNat fun cs=>q (.eptr cs)
       |_=>False)
     | .vw o m sz lo hi=>
       (match S.heap[o]? with
       |some (.row _ sz' xs)=>Chk (Nat.beq sz te.size&&Nat.beq sz' sz)<|Need (m=xs.length∧0≤n∧n<((hi - lo:Nat):Int))<|q (.rptr o m sz (lo+n.toNat) 0)
       |_=>False)
     |_=>False)
    |none=>False)
  | .array len el=>
    (match ty G el with
    |some te=>
     (match x with
     | .ptr o k=>Need (0≤n∧n<(len:Int))<|q (.ptr o (k+n.toNat*te.size))
     | .rptr o m sz i off=>
       (match S.heap[o]? with
       |some (.row _ sz' xs)=>Chk (Nat.beq sz te.size&&Nat.beq sz' sz&&Nat.beq i 0&&Nat.beq off 0)<|Need (m=xs.length∧m=len∧0≤n∧n<(m:Int))<|q (.rptr o m sz n.toNat 0)
       |_=>False)
     |_=>False)
    |none=>False)
  |_=>False)
 |_,_=>False
def indexV (G:Tys) (T:TypeId) (x i:AV) (q:AV→Prop):Prop:=
 match ty G T,i with
 |some ti,.v (.int _ n)=>
  (match ti.u,x with
  | .str,.v (.string s)=>Need (0≤n∧n.toNat<s.size)<|q (.v (.int .u8 ((byteAt s n.toNat).toNat:Int)))
  |_,_=>False)
 |_,_=>False
def boundV (x:Option AV) (d:Int) (q:Int→Prop):Prop:=
 match x with
 |none=>q d
 |some (.v (.int _ n))=>q n
 |_=>False
def sliceV (G:Tys) (S:St) (T:TypeId) (x:AV) (lo hi:Option AV) (q:AV→Prop):Prop:=
 match ty G T with
 |some ti=>
  (match ti.u,x with
  | .str,.v (.string s)=>boundV lo 0 fun l=>boundV hi s.size fun h=>Need (0≤l∧l≤h∧h≤(s.size:Int))<|q (.v (.string (s.extract l.toNat h.toNat)))
  | .slice el,.sl xs=>
    (match ty G el with
    |some te=>Need (∀cs∈xs,cs.length=te.size)<|boundV lo 0 fun l=>boundV hi xs.length fun h=>Need (0≤l∧l≤h∧h≤(xs.length:Int))<|q (.sl ((xs.take h.toNat).drop l.toNat))
    |none=>False)
  | .slice el,.row o m=>
    (match ty G el,S.heap[o]? with
    |some te,some (.row _ sz xs)=>Chk (Nat.beq sz te.size)<|Need (m=xs.length∧0<m)<|boundV lo 0 fun l=>boundV hi m fun h=>Need (0≤l∧l≤h∧h≤(m:Int))<|q (.vw o m sz l.toNat h.toNat)
    |_,_=>False)
  | .slice el,.vw o m sz a b=>
    (match ty G el,S.heap[o]? with
    |some te,some (.row _ sz' xs)=>Chk (Nat.beq sz te.size&&Nat.beq sz' sz)<|Need (m=xs.length)<|boundV lo 0 fun l=>boundV hi ((b - a:Nat):Int) fun h=>Need (0≤l∧l≤h∧a+h.toNat≤m)<|q (.vw o m sz (a+l.toNat) (a+h.toNat))
    |_,_=>False)
  | .array len el,.rptr o m sz i off=>
    (match ty G el,S.heap[o]? with
    |some te,some (.frz sz' xs)=>Chk (Nat.beq sz te.size&&Nat.beq sz' sz&&Nat.beq i 0&&Nat.beq off 0)<|Need (m=xs.length∧m=len∧0<m)<|boundV lo 0 fun l=>boundV hi len fun h=>Need (0≤l∧l≤h∧h≤(len:Int))<|q (.sl ((xs.take h.toNat).drop l.toNat))
    |_,_=>False)
  |_,_=>False)
 |none=>False
def slice3V (G:Tys) (S:St) (T:TypeId) (x:AV) (lo hi:Option AV) (mx:AV) (q:AV→Prop):Prop:=
 match ty G T with
 |some ti=>
  (match ti.u,x,mx with
  | .slice el,.row o m,.v (.int _ k)=>
    (match ty G el,S.heap[o]? with
    |some te,some (.row _ sz xs)=>Need (m=xs.length)<|boundV lo 0 fun l=>boundV hi m fun h=>Need (hi≠none∧0≤l∧l≤h∧h≤k∧k≤(m:Int))<|q .dead
    |_,_=>False)
  | .slice el,.sl xs,.v (.int _ k)=>Chk (ty G el).isSome<|boundV lo 0 fun l=>boundV hi xs.length fun h=>Need (hi≠none∧l=0∧h=xs.length∧k=xs.length)<|q (.slc xs)
  |_,_,_=>False)
 |none=>False
def lenV (G:Tys) (S:St) (T:TypeId) (x:AV) (q:AV→Prop):Prop:=
 match ty G T with
 |some ti=>
  (match ti.u,x with
  | .str,.v (.string s)=>q (.v (.int .i64 s.size))
  | .slice _,.sl xs=>q (.v (.int .i64 xs.length))
  | .slice _,.row o n=>(match S.heap[o]? with|some (.row _ _ xs)=>Need (n=xs.length)<|q (.v (.int .i64 n))|some (.frz _ xs)=>Need (n=xs.length)<|q (.v (.int .i64 n))|_=>False)
  | .slice _,.v (.slice none 0 0)=>q (.v (.int .i64 0))
  | .slice _,.vw o n _ lo hi=>(match S.heap[o]? with|some (.row _ _ xs)=>Need (n=xs.length)<|q (.v (.int .i64 ((hi - lo:Nat):Int)))|_=>False)
  |_,_=>False)
 |none=>False
def minmaxV (mx:Bool) (x y:AV) (q:AV→Prop):Prop:=
 match x,y with
 | .v (.int k a),.v (.int _ b)=>q (.v (.int k (if mx then (if a<b then b else a) else (if b<a then b else a))))
 |_,_=>False
def ofInts (l:List Int):ByteArray:=l.foldl (fun r n=>r.push (UInt8.ofNat n.toNat)) ByteArray.empty
structure RowInts (xs:List (List AV)) (k:List Int→Prop):Prop where
 out: ∃l:List Int,xs=l.map (fun n=>[.v (.int .u8 n)])∧k l
def bytesV (S:St) (x:AV) (q:AV→Prop):Prop:=
 match x with
 | .sl xs=>RowInts xs fun l=>q (.v (.string (ofInts l)))
 | .row o n=>
   (match S.heap[o]? with
   |some (.row _ sz xs)=>Chk (Nat.beq sz 1)<|Need (n=xs.length)<|RowInts xs fun l=>q (.v (.string (ofInts l)))
   |some (.frz sz xs)=>Chk (Nat.beq sz 1)<|Need (n=xs.length)<|RowInts xs fun l=>q (.v (.string (ofInts l)))
   |_=>False)
 | .vw o n sz lo hi=>
   (match S.heap[o]? with
   |some (.row _ sz' xs)=>Chk (Nat.beq sz 1&&Nat.beq sz' 1)<|Need (n=xs.length)<|RowInts ((xs.take hi).drop lo) fun l=>q (.v (.string (ofInts l)))
   |_=>False)
 |_=>False
def convV (G:Tys) (S:St) (src dst:TypeId) (x:AV) (q:AV→Prop):Prop:=
 match ty G src,ty G dst with
 |some ts,some td=>
  (match td.u,x with
  | .int k,.v (.int _ n)=>q (.v (.int k (k.wrap n)))
  | .str,.v (.string s)=>q (.v (.string s))
  | .str,x=>
    (match ts.u with
    | .slice el=>(match ty G el with|some te=>(match te.u with| .int .u8=>bytesV S x q|_=>False)|none=>False)
    |_=>False)
  |_,_=>False)
 |_,_=>False
def cellsB:AV→Option (List AV)
 | .agg cs=>some cs
 |x=>if x.one then some [x] else none
def putCells (cs:List AV) (off:Nat):List AV→List AV
 |[]=>cs
 |x::r=>putCells (cs.set off x) (off+1) r
def buildV (G:Tys) (S:St) (fs:List (Nat×TypeId)) (cs:List AV):List (Nat×Operand)→Option (List AV)
 |[]=>some cs
 |(i,x)::r=>
  match fs[i]? with
  |none=>none
  |some (off,ft)=>
   match ty G ft with
   |none=>none
   |some tf=>
    match cellsB (S.ev x) with
    |none=>none
    |some ys=>match Nat.beq ys.length tf.size&&Nat.ble (off+tf.size) cs.length with|true=>buildV G S fs (putCells cs off ys) r|false=>none
def builtinV (G:Tys) (S:St) (c:Callee) (args:List Operand) (ts:List TypeId) (q:AV→Prop):Prop:=
 match c with
 | .builtin b=>
   (match b,args,ts with
   | .len,[x],[T]=>lenV G S T (S.ev x) q
   | .min,[x,y],_=>minmaxV false (S.ev x) (S.ev y) q
   | .max,[x,y],_=>minmaxV true (S.ev x) (S.ev y) q
   |_,_,_=>False)
 |_=>False
def nilV (x:AV) (q:AV→Prop):Prop:=
 match x with
 | .ptr o off=>q (.ptr o off)
 | .eptr cs=>q (.eptr cs)
 | .fn (.func f) first caps=>q (.fn (.func f) first caps)
 |_=>False
def valOp (G:Tys) (S:St) (o:Op) (q:AV→Prop):Prop:=
 match o with
 | .move x=>q (S.ev x)
 | .assign x=>q (S.ev x)
 | .nilCheck x=>nilV (S.ev x) q
 | .pick c a b=>pickV (S.ev c) (S.ev a) (S.ev b) q
 | .load T x=>(match ty G T with|some ti=>loadV S ti (S.ev x) q|none=>False)
 | .binOp op T x y _=>binV G (isK x||isK y) op T (S.ev x) (S.ev y) q
 | .unOp op _ x=>unV op (S.ev x) q
 | .convert s d x=>convV G S s d (S.ev x) q
 | .fieldAddr T x f=>fieldAddrV G S T (S.ev x) f q
 | .field T x f=>fieldV G T (S.ev x) f q
 | .indexAddr T x i=>indexAddrV G S T (S.ev x) (S.ev i) q
 | .index T x i=>indexV G T (S.ev x) (S.ev i) q
 | .slice T x lo hi none=>sliceV G S T (S.ev x) (lo.map S.ev) (hi.map S.ev) q
 | .slice T x lo hi (some mx)=>slice3V G S T (S.ev x) (lo.map S.ev) (hi.map S.ev) (S.ev mx) q
 | .extract x i=>(match S.ev x with| .tup vs=>(match vs[i]? with|some r=>q r|none=>False)|_=>False)
 | .build T parts=>
   (match ty G T with
   |some ti=>
    (match ti.u with
    | .struct fs=>(match buildV G S fs (ti.zero.map .v) parts.toList with|some cs=>q (.agg cs)|none=>False)
    | .array len el=>(match ty G el with|some te=>(match buildV G S ((List.range len).map fun i=>(i*te.size,el)) (ti.zero.map .v) parts.toList with|some cs=>q (.agg cs)|none=>False)|none=>False)
    |_=>False)
   |none=>False)
 | .makeFunc f fs cs=>q (.fn f (fs.toList.map S.ev) (cs.toList.map S.ev))
 | .makeInterface T x=>(match ty G T with|some ti=>Chk ti.conc<|q (.ifc T (S.ev x))|none=>False)
 | .call c=>builtinV G S c.callee c.args.toList c.argTypes.toList q
 |_=>False
end Go.Ab
namespace Go.Ab
set_option linter.unusedVariables false
set_option linter.unusedSimpArgs false
section inv
variable {w:World} {F:Nat→Prop} {e:Env} {x:Value}
theorem ch.v_inv {y:Value} (h:ch w F e (.v y) x):x=y:=by cases h;rfl
theorem ch.ptr_inv {o off:Nat} (h:ch w F e (.ptr o off) x):o<e.len∧x= .pointer (some ⟨e.blk o,off,none⟩):=by cases h;exact ⟨by assumption,rfl⟩
theorem ch.agg_inv {cs:List AV} (h:ch w F e (.agg cs) x): ∃vs,x= .agg vs∧vs.size=cs.length∧ ∀(j:Nat) s,cs[j]? =some s→ch w F e s (vs.getD j undef):=by
 cases h with|agg h r=>exact ⟨_,rfl,h,r⟩
theorem ch.tup_inv {cs:List AV} (h:ch w F e (.tup cs) x): ∃vs,x= .tuple vs∧vs.size=cs.length∧ ∀(j:Nat) s,cs[j]? =some s→ch w F e s (vs.getD j undef):=by
 cases h with|tup h r=>exact ⟨_,rfl,h,r⟩
theorem ch.ifc_inv {t:TypeId} {s:AV} (h:ch w F e (.ifc t s) x): ∃y,x= .iface t y∧ch w F e s y:=by
 cases h with|ifc h=>exact ⟨_,rfl,h⟩
theorem ch.eptr_inv {cs:List AV} (h:ch w F e (.eptr cs) x): ∃(a:Addr) (vals:Nat→Value),x= .pointer (some a)∧F a.block∧a.spot=none∧
 (∀(j:Nat) s,cs[j]? =some s→w.cell? ⟨a.block,a.off+j,none⟩=some (vals j))∧ ∀(j:Nat) s,cs[j]? =some s→ch w F Env.nil s (vals j):=by
 cases h with|eptr a vals hF ha hcell hrep=>exact ⟨a,vals,rfl,hF,ha,hcell,hrep⟩
theorem ch.sl_inv {xs:List (List AV)} (h:ch w F e (.sl xs) x): ∃A c,x= .slice A xs.length c∧xs.length≤c:=by
 cases h with|sl sz a vals hc=>exact ⟨_,_,rfl,hc⟩
theorem ch.env {s:AV} (h:ch w F Env.nil s x):ch w F e s x:=h.mono (bS.refl w F) (aH.nil e)
end inv
section
variable {X:Nat→Prop} {P:Program} {G:Tys} {S:St} {a:Act} {w:World} {F:Nat→Prop} {e:Env}
theorem intV_sound {op:BinOp} {k:IntKind} {m n:Int} {q:AV→Prop} (h:intV op k m n q) (hs:op≠ .shl) (hr:op≠ .shr) (T:TypeId) (A B:Operand):
 ∃x,q (.v x)∧ ∀w',(do eqGuard op T A B (.int k m) (.int k n);binOp op T (.int k m) (.int k n):Sem Value).run P w'= .ok x w':=by
 cases op<;>simp only [intV] at h<;>first|exact absurd rfl hs|exact absurd rfl hr|skip
 all_goals first
  |exact h.elim
  |(obtain ⟨hb,hq⟩:=h
    exact ⟨_,hq,fun w'=>by simp [eqGuard,binOp,Op.intDiv,hb]⟩)
  |exact ⟨_,h,fun w'=>by simp [eqGuard,binOp,Op.intArith,Op.intCmp,Op.intBits]<;>rfl⟩
  |exact ⟨_,h,fun w'=>rfl⟩
theorem toList_eq_iff (a b:ByteArray):(a.toList == b.toList)=decide (a=b):=by
 by_cases h:a=b
 ·subst h;simp
 ·have:a.toList≠b.toList:=fun hh=>h (by
   rw [ByteArray.toList_eq,ByteArray.toList_eq] at hh
   obtain ⟨⟨x⟩⟩:=a
   obtain ⟨⟨y⟩⟩:=b
   simp at hh
   subst hh;rfl)
  simp [h,this]
theorem strV_sound {op:BinOp} {m n:ByteArray} {q:AV→Prop} (h:strV op m n q) (T:TypeId) (A B:Operand):
 ∃x,q (.v x)∧ ∀w',(do eqGuard op T A B (.string m) (.string n);binOp op T (.string m) (.string n):Sem Value).run P w'= .ok x w':=by
 cases op<;>simp only [strV] at h
 all_goals first
  |exact h.elim
  |(obtain ⟨hb,hq⟩:=h
    refine ⟨_,hq,fun w'=> ?_⟩
    have hb': ¬(((m.size+n.size:Nat):Int)>IntKind.i64.max):=by simp only [IntKind.max,IntKind.bits,IntKind.signed];simp;omega
    simp [eqGuard,binOp,Op.stringOp]
    omega)
  |exact ⟨_,h,fun w'=>by simp only [eqGuard,binOp,Op.stringOp,toList_eq_iff,ltB];rfl⟩
theorem shiftV_sound {op:BinOp} {k k':IntKind} {m n:Int} {q:AV→Prop} (h:shiftV op k m n q) (T:TypeId) (A B:Operand):
 ∃x,q (.v x)∧ ∀w',(do eqGuard op T A B (.int k m) (.int k' n);binOp op T (.int k m) (.int k' n):Sem Value).run P w'= .ok x w':=by
 cases op<;>simp only [shiftV] at h
 all_goals first
  |exact h.elim
  |(obtain ⟨hb,hq⟩:=h
    have hb': ¬n<0:=by omega
    exact ⟨_,hq,fun w'=>by simp [eqGuard,binOp,Op.shift,hb']⟩)
def CellsOf (w:World) (F:Nat→Prop) (e:Env) (ti:TI) (xs:List AV) (x:Value):Prop:=
 if ti.u.agg then ∃vs,x= .agg vs∧vs.size=xs.length∧ ∀(j:Nat) s,xs[j]? =some s→ch w F e s (vs.getD j undef) else ∃s,xs=[s]∧ch w F e s x
theorem cellsT_of {ti:TI} {r:AV} {cs:List AV} (h:cellsT ti r=some cs) {x:Value} (hx:ch w F e r x):CellsOf w F e ti cs x:=by
 unfold CellsOf
 cases r<;>simp only [cellsT] at h
 case agg cs'=>
  split at h
  ·injection h with h;subst h
   rw [if_pos (by assumption)]
   exact hx.agg_inv
  ·cases h
 all_goals
  split at h
  ·cases h
  ·injection h with h;subst h
   rw [if_neg (by assumption)]
   exact ⟨_,rfl,hx⟩
theorem part_sound {t:TypeId} {ti:TI} (g:aq P t ti) {cs:List AV} {off:Nat} {r:AV} (hr:readAV ti cs off=some r) {vs:Array Value} (hsz:vs.size=cs.length)
 (hrep: ∀(j:Nat) s,cs[j]? =some s→ch w F e s (vs.getD j undef)): ∃x,ch w F e r x∧ ∀w',(part t vs off).run P w'= .ok x w':=by
 unfold readAV at hr
 split at hr
 case h_2=>cases hr
 rename_i hk
 split at hr
 ·rename_i ha
  split at hr
  case h_2=>cases hr
  rename_i hle
  replace hle:=Nat.le_of_ble_eq_true hle
  injection hr with hr
  subst hr
  refine ⟨.agg (vs.extract off (off+ti.size)),.agg (by simp;omega) (fun j s hj=> ?_),fun w'=> ?_⟩
  ·have hlt:j<ti.size:=by
    rcases Nat.lt_or_ge j ti.size with h|h
    ·exact h
    ·rw [List.getElem?_eq_none (by simp;omega)] at hj;cases hj
   have hj':cs[off+j]? =some s:=by
    rw [List.getElem?_take_of_lt hlt,List.getElem?_drop] at hj
    exact hj
   have hx:(vs.extract off (off+ti.size)).getD j undef=vs.getD (off+j) undef:=by
    simp only [Array.getD_eq_getD_getElem?]
    rw [Array.getElem?_extract]
    rw [if_pos (by omega)]
   rw [hx]
   exact hrep _ _ hj'
  ·unfold part
   rw [Sem.run_bind,g.agg ha w']
   simp [g.sizeOf w']
 ·rename_i ha
  have hlt:off<cs.length:=(List.getElem?_eq_some_iff.1 hr).1
  refine ⟨vs.getD off undef,hrep _ _ hr,fun w'=> ?_⟩
  unfold part
  rw [Sem.run_bind,g.notagg (by simpa using ha) hk w']
  have:vs[off]? =some (vs.getD off undef):=by
   rw [Array.getD_eq_getD_getElem?,Array.getElem?_eq_getElem (by omega)];rfl
  simp only [Result.andThen_ok,Bool.false_eq_true,if_false]
  rw [this]
  rfl
theorem eq_sound (hG:TyOk P G): ∀(d:Nat),
 (∀(t:TypeId) ti xs ys b X Y,ty G t=some ti→eqT G d t xs ys=some b→CellsOf w F e ti xs X→CellsOf w F e ti ys Y→ ∀D w',d≤D→(Op.equalIn D t X Y).run P w'= .ok b w')∧
 (∀(fs:List Field) xs ys b (vs us:Array Value),(∀g∈fs,g.name≠ "_")→eqFs G d (fs.map fun g=>(g.offset,g.type)) xs ys=some b→
   vs.size=xs.length→(∀(j:Nat) s,xs[j]? =some s→ch w F e s (vs.getD j undef))→us.size=ys.length→(∀(j:Nat) s,ys[j]? =some s→ch w F e s (us.getD j undef))→
   ∀D w',d≤D→(Op.eqFields D vs us fs).run P w'= .ok b w'):=by
 intro d
 induction d with
 |zero=>
  refine ⟨fun t ti xs ys b X Y ht h=>by simp [eqT] at h,fun fs xs ys b vs us hn h=> ?_⟩
  cases fs with
  |nil=>
   intro _ _ _ _ D w' _
   simp [eqFs] at h
   subst h
   simp [Op.eqFields]
  |cons g r=>simp [eqFs] at h
 |succ d ih=>
  have hT: ∀(t:TypeId) ti xs ys b X Y,ty G t=some ti→eqT G (d+1) t xs ys=some b→CellsOf w F e ti xs X→CellsOf w F e ti ys Y→ ∀D w',d+1≤D→(Op.equalIn D t X Y).run P w'= .ok b w':=by
   intro t ti xs ys b X Y ht h hX hY D w' hD
   obtain ⟨D,rfl⟩: ∃m,D=m+1:=⟨D - 1,by omega⟩
   have g:=hG.get ht
   obtain ⟨de,hde,hfit⟩:=g.und
   simp only [eqT,ht] at h
   split at h
   ·rename_i k a k' b' hu
    rw [hu] at hfit
    simp only [U.Fits] at hfit
    subst hfit
    simp only [CellsOf,hu,U.agg,Bool.false_eq_true,if_false] at hX hY
    obtain ⟨s,hs,hX⟩:=hX
    obtain ⟨s',hs',hY⟩:=hY
    injection hs with hs _;subst hs
    injection hs' with hs' _;subst hs'
    have:=hX.v_inv;subst this
    have:=hY.v_inv;subst this
    split at h
    ·rename_i hk;subst hk
     injection h with h;subst h
     exact run_equalIn_int w' D t _ _ a b' hde
    ·cases h
   ·rename_i a b' hu
    rw [hu] at hfit
    simp only [U.Fits] at hfit
    subst hfit
    simp only [CellsOf,hu,U.agg,Bool.false_eq_true,if_false] at hX hY
    obtain ⟨s,hs,hX⟩:=hX
    obtain ⟨s',hs',hY⟩:=hY
    injection hs with hs _;subst hs
    injection hs' with hs' _;subst hs'
    have:=hX.v_inv;subst this
    have:=hY.v_inv;subst this
    injection h with h;subst h
    exact run_equalIn_bool' w' D t a b' hde
   ·rename_i a b' hu
    rw [hu] at hfit
    simp only [U.Fits] at hfit
    subst hfit
    simp only [CellsOf,hu,U.agg,Bool.false_eq_true,if_false] at hX hY
    obtain ⟨s,hs,hX⟩:=hX
    obtain ⟨s',hs',hY⟩:=hY
    injection hs with hs _;subst hs
    injection hs' with hs' _;subst hs'
    have:=hX.v_inv;subst this
    have:=hY.v_inv;subst this
    injection h with h;subst h
    rw [run_equalIn_string w' D t a b' hde,toList_eq_iff]
   ·rename_i fs xs' ys' hu
    rw [hu] at hfit
    simp only [U.Fits] at hfit
    obtain ⟨gs,rfl,hfs,hnm⟩:=hfit
    split at h
    ·rename_i hpl
     simp only [CellsOf,hu,U.agg,if_true] at hX hY
     obtain ⟨vs,rfl,h1,h2⟩:=hX
     obtain ⟨us,rfl,k1,k2⟩:=hY
     have hfo:P.fieldsOf t=gs:=by simp [Program.fieldsOf,hde]
     rw [run_equalIn_struct w' D t vs us (by rw [hfo];exact hde) (g.plain hpl).1,hfo]
     subst hfs
     exact ih.2 gs.toList _ _ b vs us hnm h h1 h2 k1 k2 D w' (by omega)
    ·cases h
   ·cases h
  refine ⟨hT,fun fs=> ?_⟩
  intro xs ys b vs us hn h h1 h2 k1 k2 D w' hD
  cases fs with
  |nil=>
   simp [eqFs] at h
   subst h
   simp [Op.eqFields]
  |cons f r=>
   simp only [List.map_cons,eqFs] at h
   split at h
   ·cases h
   rename_i ti ht
   split at h
   case h_2=>cases h
   rename_i p1 p2 hp1 hp2
   split at h
   case h_2=>cases h
   rename_i c1 c2 hc1 hc2
   split at h
   case h_2=>cases h
   rename_i b1 b2 hb1 hb2
   injection h with h
   obtain ⟨x1,hx1,e1⟩:=part_sound (hG.get ht) hp1 h1 h2
   obtain ⟨x2,hx2,e2⟩:=part_sound (hG.get ht) hp2 k1 k2
   have e3:=ih.1 f.type ti _ _ b1 x1 x2 ht hb1 (cellsT_of hc1 hx1) (cellsT_of hc2 hx2) D w' (by omega)
   have e4:=ih.2 r xs ys b2 vs us (fun g hg=>hn g (List.mem_cons_of_mem _ hg)) hb2 h1 h2 k1 k2 D w' (by omega)
   have hnm:f.name≠ "_" :=hn f (List.mem_cons_self ..)
   simp only [Op.eqFields,hnm,ne_eq,not_false_eq_true,if_true,Sem.run_bind,e1,e2,e3,Result.andThen_ok]
   subst h
   cases b1
   ·simp
   ·simpa using e4
end
end Go.Ab
namespace Go.Ab
set_option linter.unusedVariables false
set_option linter.unusedSimpArgs false
section
variable {X:Nat→Prop} {P:Program} {G:Tys} {S:St} {a:Act} {w:World} {F:Nat→Prop} {e:Env}
theorem aq.slice {t:TypeId} {ti:TI} {el:TypeId} (g:aq P t ti) (hu:ti.u= .slice el):P.underlying t=some (.slice el):=by
 obtain ⟨de,hde,hfit⟩:=g.und
 rw [hu] at hfit;simp only [U.Fits] at hfit;subst hfit;exact hde
theorem aq.str {t:TypeId} {ti:TI} (g:aq P t ti) (hu:ti.u= .str):P.underlying t=some .string:=by
 obtain ⟨de,hde,hfit⟩:=g.und
 rw [hu] at hfit;simp only [U.Fits] at hfit;subst hfit;exact hde
theorem aq.int {t:TypeId} {ti:TI} {k:IntKind} (g:aq P t ti) (hu:ti.u= .int k):P.underlying t=some (.int k):=by
 obtain ⟨de,hde,hfit⟩:=g.und
 rw [hu] at hfit;simp only [U.Fits] at hfit;subst hfit;exact hde
theorem aq.bool {t:TypeId} {ti:TI} (g:aq P t ti) (hu:ti.u= .bool):P.underlying t=some .bool:=by
 obtain ⟨de,hde,hfit⟩:=g.und
 rw [hu] at hfit;simp only [U.Fits] at hfit;subst hfit;exact hde
theorem aq.arr {t:TypeId} {ti:TI} {n:Nat} {el:TypeId} (g:aq P t ti) (hu:ti.u= .array n el):P.underlying t=some (.array n el):=by
 obtain ⟨de,hde,hfit⟩:=g.und
 rw [hu] at hfit;simp only [U.Fits] at hfit;subst hfit;exact hde
theorem aq.iface {t:TypeId} {ti:TI} (g:aq P t ti) (hu:ti.u= .iface): ∃ms,P.underlying t=some (.interface ms):=by
 obtain ⟨de,hde,hfit⟩:=g.und
 rw [hu] at hfit;simp only [U.Fits] at hfit;obtain ⟨ms,rfl⟩:=hfit;exact ⟨ms,hde⟩
theorem aq.struct {t:TypeId} {ti:TI} {fs:List (Nat×TypeId)} (g:aq P t ti) (hu:ti.u= .struct fs):
 ∃gs:Array Field,P.underlying t=some (.struct gs)∧fs=gs.toList.map (fun g=>(g.offset,g.type))∧ ∀g∈gs.toList,g.name≠ "_" :=by
 obtain ⟨de,hde,hfit⟩:=g.und
 rw [hu] at hfit;simp only [U.Fits] at hfit
 obtain ⟨gs,rfl,h1,h2⟩:=hfit
 exact ⟨gs,hde,h1,h2⟩
theorem equalIn_slice_nil {T:TypeId} {el:TypeId} (h:P.underlying T=some (.slice el)) (d:Nat) (A:Option Addr) (n c:Nat) (w':World):
 (Op.equalIn (d+1) T (.slice A n c) (.slice none 0 0)).run P w'= .ok A.isNone w':=by
 cases A<;>simp [Op.equalIn,run_underlying h]
theorem equalIn_iface_nil {T:TypeId} {ms:Array (String×TypeId)} (h:P.underlying T=some (.interface ms)) (d:Nat) (t:TypeId) (z:Value) (w':World):
 (Op.equalIn (d+1) T (.iface t z) .nilIface).run P w'= .ok false w':=by
 simp [Op.equalIn,run_underlying h]
theorem equalIn_nil_nil {T:TypeId} {ms:Array (String×TypeId)} (h:P.underlying T=some (.interface ms)) (d:Nat) (w':World):
 (Op.equalIn (d+1) T .nilIface .nilIface).run P w'= .ok true w':=by
 simp [Op.equalIn,run_underlying h]
theorem eqGuard_nil {op:BinOp} {T:TypeId} {A B:Operand} (h:(isK A||isK B)=true) (w':World):(eqGuard op T A B .nilIface .nilIface).run P w'= .ok () w':=by
 cases A<;>cases B<;>simp [isK] at h<;>cases op<;>simp [eqGuard]
theorem eqlV_sound (hG:TyOk P G) (H:Here S a w F e) {T:TypeId} {A B:Operand} {q:Bool→Prop} (h:eqlV G (isK A||isK B) T (S.ev A) (S.ev B) q) (neg:Bool):
 ∃b,q b∧ ∀w',Agree X w w'→(do eqGuard (bif neg then .neq else .eql) T A B (a.eval A) (a.eval B);binOp (bif neg then .neq else .eql) T (a.eval A) (a.eval B):Sem Value).run P w'= .ok (.bool (bif neg then !b else b)) w':=by
 have hx:=H.ev A
 have hy:=H.ev B
 generalize S.ev A=x at*
 generalize S.ev B=y at*
 generalize a.eval A=X at*
 generalize a.eval B=Y at*
 unfold eqlV at h
 split at h
 ·rename_i p r
  split at h
  case h_2=>exact h.elim
  rename_i ti ht
  split at h
  case h_2=>exact h.elim
  rename_i hu
  have hde:=(hG.get ht).bool hu
  have:=hx.v_inv;subst this
  have:=hy.v_inv;subst this
  refine ⟨_,h,fun w' _=> ?_⟩
  cases neg<;>simp [eqGuard,binOp,Op.equal,Op.maxDepth,run_equalIn_bool' w' 9999 T p r hde]
 ·rename_i xs ys
  split at h
  case h_2=>exact h.elim
  rename_i ti ht
  obtain ⟨hagp,h⟩:=h.elim
  simp only [Bool.and_eq_true] at hagp
  obtain ⟨hag,hpl⟩:=hagp
  split at h
  case h_2=>exact h.elim
  rename_i b hb
  have g:=hG.get ht
  obtain ⟨vs,rfl,h1,h2⟩:=hx.agg_inv
  obtain ⟨us,rfl,k1,k2⟩:=hy.agg_inv
  refine ⟨b,h,fun w' _=> ?_⟩
  have:=(eq_sound (P:=P) (w:=w) (F:=F) (e:=e) hG 12).1 T ti xs ys b (.agg vs) (.agg us) ht hb (by unfold CellsOf;rw [if_pos hag];exact ⟨vs,rfl,h1,h2⟩) (by unfold CellsOf;rw [if_pos hag];exact ⟨us,rfl,k1,k2⟩) 10000 w' (by omega)
  cases neg
  ·simp only [cond_false,Sem.run_bind,run_eqGuard_agg w' .eql T A B vs us (g.plain hpl).2,Result.andThen_ok,run_eql_struct w' T vs us,this]
  ·simp only [cond_true,Sem.run_bind,run_eqGuard_agg w' .neq T A B vs us (g.plain hpl).2,Result.andThen_ok,run_neq_struct w' T vs us,this]
 ·rename_i xs
  split at h
  case h_2=>exact h.elim
  rename_i ti ht
  split at h
  case h_2=>exact h.elim
  rename_i el hu
  have hde:=(hG.get ht).slice hu
  have:=hy.v_inv;subst this
  cases hx with
  | @sl _ _ A' c sz ad vals hc hA hsz hone hcell hrep=>
    refine ⟨A'.isNone,h _ (fun hn=> ?_),fun w' _=> ?_⟩
    ·by_cases hx:xs=[]
     ·exact hx
     ·rw [(hA hx).1] at hn;simp at hn
    ·cases neg<;>simp [eqGuard,binOp,Op.equal,Op.maxDepth,equalIn_slice_nil hde 9999]
 ·split at h
  case h_2=>exact h.elim
  rename_i ti ht
  split at h
  case h_2=>exact h.elim
  rename_i el hu
  have hde:=(hG.get ht).slice hu
  have:=hx.v_inv;subst this
  have:=hy.v_inv;subst this
  refine ⟨_,h,fun w' _=> ?_⟩
  cases neg<;>simp [eqGuard,binOp,Op.equal,Op.maxDepth,equalIn_slice_nil hde 9999]
 ·rename_i t s
  split at h
  case h_2=>exact h.elim
  rename_i ti ht
  split at h
  case h_2=>exact h.elim
  rename_i hu
  obtain ⟨ms,hde⟩:=(hG.get ht).iface hu
  obtain ⟨z,rfl,_⟩:=hx.ifc_inv
  have:=hy.v_inv;subst this
  refine ⟨_,h,fun w' _=> ?_⟩
  cases neg<;>simp [eqGuard,binOp,Op.equal,Op.maxDepth,equalIn_iface_nil hde 9999]
 ·split at h
  case h_2=>exact h.elim
  rename_i hk ti hkc ht
  split at h
  case h_2=>exact h.elim
  rename_i hu
  obtain ⟨ms,hde⟩:=(hG.get ht).iface hu
  have:=hx.v_inv;subst this
  have:=hy.v_inv;subst this
  refine ⟨_,h,fun w' _=> ?_⟩
  have hg:=fun op=>eqGuard_nil (P:=P) (op:=op) (T:=T) hkc w'
  cases neg<;>simp [hg,binOp,Op.equal,Op.maxDepth,equalIn_nil_nil hde 9999]
 ·exact h.elim
theorem binV_sound (hG:TyOk P G) (H:Here S a w F e) {op:BinOp} {T yT:TypeId} {A B:Operand} {q:AV→Prop} {o:Oper} (ho:o.op= .binOp op T A B yT)
 (h:binV G (isK A||isK B) op T (S.ev A) (S.ev B) q): ∃r x,q r∧ch w F e r x∧Yields1 X P o a w x:=by
 have run: ∀(x:Value) (w':World),(do eqGuard op T A B (a.eval A) (a.eval B);binOp op T (a.eval A) (a.eval B):Sem Value).run P w'= .ok x w'→(execOp a.eval o).run P w'= .ok (.value x) w':=by
  intro x w' hx
  unfold execOp
  simp only [ho]
  rw [Sem.run_bind,hx]
  rfl
 have hx:=H.ev A
 have hy:=H.ev B
 unfold binV at h
 split at h
 ·rename_i k m k' n h1 h2
  rw [h1] at hx;rw [h2] at hy
  have ex:=hx.v_inv;have ey:=hy.v_inv
  obtain ⟨x,hq,hr⟩:=shiftV_sound (P:=P) (k':=k') h T A B
  exact ⟨_,x,hq,.v,fun w' _=>run x w' (by rw [ex,ey];exact hr w')⟩
 ·rename_i k m k' n h1 h2
  rw [h1] at hx;rw [h2] at hy
  have ex:=hx.v_inv;have ey:=hy.v_inv
  obtain ⟨x,hq,hr⟩:=shiftV_sound (P:=P) (k':=k') h T A B
  exact ⟨_,x,hq,.v,fun w' _=>run x w' (by rw [ex,ey];exact hr w')⟩
 ·rename_i k m k' n hs hr h1 h2
  rw [h1] at hx;rw [h2] at hy
  have ex:=hx.v_inv;have ey:=hy.v_inv
  have hh:=h.elim
  clear h
  obtain ⟨hk,h⟩:=hh
  replace hk:=kEq_eq hk
  subst hk
  obtain ⟨x,hq,hr⟩:=intV_sound (P:=P) h hs hr T A B
  exact ⟨_,x,hq,.v,fun w' _=>run x w' (by rw [ex,ey];exact hr w')⟩
 ·rename_i m n h1 h2
  rw [h1] at hx;rw [h2] at hy
  have ex:=hx.v_inv;have ey:=hy.v_inv
  obtain ⟨x,hq,hr⟩:=strV_sound (P:=P) h T A B
  exact ⟨_,x,hq,.v,fun w' _=>run x w' (by rw [ex,ey];exact hr w')⟩
 ·obtain ⟨b,hq,hr⟩:=eqlV_sound hG H h false
  exact ⟨_,_,hq,.v,fun w' hw=>run _ w' (by simpa using hr w' hw)⟩
 ·obtain ⟨b,hq,hr⟩:=eqlV_sound hG H h true
  exact ⟨_,_,hq,.v,fun w' hw=>run _ w' (by simpa using hr w' hw)⟩
 ·exact h.elim
end
end Go.Ab
namespace Go.Ab
set_option linter.unusedVariables false
set_option linter.unusedSimpArgs false
section
variable {X:Nat→Prop} {P:Program} {G:Tys} {S:St} {a:Act} {w:World} {F:Nat→Prop} {e:Env}
def Sound1 (X:Nat→Prop) (P:Program) (o:Oper) (a:Act) (w:World) (F:Nat→Prop) (e:Env) (q:AV→Prop):Prop:= ∃r x,q r∧ch w F e r x∧Yields1 X P o a w x
theorem HRep.var {H:List Ob} (h:HRep w F e H) {o:Nat} {T:TypeId} {cs:List AV} (ho:H[o]? =some (.var T cs)):
 ∃vs,w.heap[e.blk o]? =some (.cells vs T (0,0))∧vs.size=cs.length∧ ¬F (e.blk o)∧ ∀(j:Nat) s,cs[j]? =some s→ch w F e s (vs.getD j undef):=by
 obtain ⟨h1,vs,h2,h3,h4⟩:=h.ob o _ ho
 exact ⟨vs,h2,h3,h1,h4⟩
theorem getElem?_of_getD {vs:Array Value} {j:Nat} (h:j<vs.size):vs[j]? =some (vs.getD j undef):=by
 rw [Array.getD_eq_getD_getElem?,Array.getElem?_eq_getElem h];rfl
theorem unV_sound (H:Here S a w F e) {op:UnOp} {T:TypeId} {A:Operand} {q:AV→Prop} {o:Oper} (ho:o.op= .unOp op T A) (h:unV op (S.ev A) q):Sound1 X P o a w F e q:=by
 have hx:=H.ev A
 unfold unV at h
 split at h
 ·rename_i b h1
  rw [h1] at hx
  have ex:=hx.v_inv
  exact ⟨_,_,h,.v,fun w' _=>by simp [execOp,ho,ex,Op.unary]⟩
 ·rename_i k n h1
  rw [h1] at hx
  have ex:=hx.v_inv
  exact ⟨_,_,h,.v,fun w' _=>by simp [execOp,ho,ex,Op.unary,Op.intArith]⟩
 ·rename_i n h1
  rw [h1] at hx
  have ex:=hx.v_inv
  exact ⟨_,_,h,.v,fun w' _=>by simp only [execOp,ho,ex,Op.unary,Op.intBits];rfl⟩
 ·exact h.elim
theorem pickV_sound (H:Here S a w F e) {A B C:Operand} {q:AV→Prop} {o:Oper} (ho:o.op= .pick C A B) (h:pickV (S.ev C) (S.ev A) (S.ev B) q):Sound1 X P o a w F e q:=by
 have hc:=H.ev C
 have hx:=H.ev A
 have hy:=H.ev B
 unfold pickV at h
 split at h
 case h_2=>exact h.elim
 rename_i c h1
 rw [h1] at hc
 have ec:=hc.v_inv
 split at h
 ·rename_i p r h2 h3
  rw [h2] at hx;rw [h3] at hy
  have ex:=hx.v_inv;have ey:=hy.v_inv
  exact ⟨_,_,h,.v,fun w' _=>by cases c<;>simp [execOp,ho,ec,ex,ey,asBool]⟩
 ·cases c
  ·exact ⟨_,_,h,hy,fun w' _=>by simp [execOp,ho,ec,asBool]⟩
  ·exact ⟨_,_,h,hx,fun w' _=>by simp [execOp,ho,ec,asBool]⟩
theorem loadV_sound (hG:TyOk P G) (H:Here S a w F e) {T:TypeId} {A:Operand} {q:AV→Prop} {o:Oper} {ti:TI} (ht:ty G T=some ti) (ho:o.op= .load T A) (hok:XOk X F e S o.op) (h:loadV S ti (S.ev A) q):Sound1 X P o a w F e q:=by
 have hx:=H.ev A
 have g:=hG.get ht
 have fin: ∀(ad:Addr) (x:Value),a.eval A= .pointer (some ad)→(∀w',Agree X w w'→(loadVar T ad).run P w'= .ok x w')→Yields1 X P o a w x:=by
  intro ad x hA hr w' hw
  simp [execOp,ho,hA,Instr.loadAt,Instr.sureAddr,hr w' hw]
 unfold loadV at h
 split at h
 ·rename_i ob off h1
  rw [h1] at hx
  obtain ⟨ho',ex⟩:=hx.ptr_inv
  split at h
  case h_2=>exact h.elim
  rename_i T' cs hob
  split at h
  case h_2=>exact h.elim
  rename_i r hr
  obtain ⟨vs,hb,hsz,_,hrep⟩:=H.heap.var hob
  obtain ⟨x,hx',hrun⟩:=read_sound g hr (e.blk ob) 0 (fun j=>vs.getD j undef) (fun j s hj=>by
   rw [cell_of_row w _ _ vs T' _ hb,Nat.zero_add]
   exact getElem?_of_getD (by rw [hsz];exact (List.getElem?_eq_some_iff.1 hj).1)) hrep (hok.var _ _ _ _ ho h1)
  rw [Nat.zero_add] at hrun
  exact ⟨r,x,h,hx',fin _ x ex hrun⟩
 ·rename_i cs h1
  rw [h1] at hx
  obtain ⟨ad,vals,ex,hF,hsp,hcell,hrep⟩:=hx.eptr_inv
  split at h
  case h_2=>exact h.elim
  rename_i r hr
  obtain ⟨x,hx',hrun⟩:=read_sound g hr ad.block ad.off vals hcell (fun j s hj=>(hrep j s hj).env) (hok.frz _ _ _ ho h1 _ hF)
  refine ⟨r,x,h,hx',fin _ x ex ?_⟩
  rw [Nat.add_zero] at hrun
  have:(⟨ad.block,ad.off,none⟩:Addr)=ad:=by cases ad;simp_all
  rwa [this] at hrun
 ·rename_i ob n sz i off h1
  rw [h1] at hx
  split at h
  ·rename_i el sz' xs hob
   have hh:=h.eqn
   clear h
   obtain ⟨rfl,⟨rfl,hh⟩⟩:=hh
   obtain ⟨cs,hcs,h⟩:=hh.out
   split at h
   case h_2=>exact h.elim
   rename_i r hr
   obtain ⟨hrl,hown⟩:=H.heap.ob ob _ hob
   obtain ⟨hsz,hown⟩:=hown
   generalize hX:a.eval A=X at hx
   cases hx with
   |rptrold _ hn=>omega
   | @rptr _ _ _ _ _ _ b m c hlt hn hv=>
     rcases hown with ⟨hnil,_⟩|⟨b',c',vs,hv',hF,hb,hvs,hle,hmx,hrep⟩
     ·subst hnil;simp at hcs
     ·rw [hv] at hv'
      injection hv' with hv' _ _
      injection hv' with hv'
      injection hv' with hv' _ _
      subst hv'
      have hil:i<xs.length:=(List.getElem?_eq_some_iff.1 hcs).1
      have hcl:=(hsz i cs hcs).1
      have hbig:i*sz+sz≤vs.size:=by rw [hvs,←Nat.succ_mul];exact Nat.mul_le_mul_right _ (by omega)
      obtain ⟨x,hx',hrun⟩:=read_sound (e:=e) g hr b (i*sz) (fun j=>vs.getD (i*sz+j) undef) (fun j s hj=>by
       rw [cell_of_row w _ _ vs el _ hb]
       exact getElem?_of_getD (by have:=(List.getElem?_eq_some_iff.1 hj).1;omega)) (fun j s hj=>by
        obtain ⟨y,hy,hyr⟩:=hrep i cs j s hcs hj
        have:vs.getD (i*sz+j) undef=y:=by rw [Array.getD_eq_getD_getElem?,hy];rfl
        rw [this];exact hyr.env) (hok.row _ _ _ _ _ _ _ ho h1 _)
      exact ⟨r,x,h,hx',fin _ x hX hrun⟩
  ·rename_i sz' xs hob
   have hh:=h.eqn
   clear h
   obtain ⟨rfl,⟨rfl,hh⟩⟩:=hh
   obtain ⟨cs,hcs,h⟩:=hh.out
   split at h
   case h_2=>exact h.elim
   rename_i r hr
   obtain ⟨hrl,hsz,hsl⟩:=H.heap.ob ob _ hob
   generalize hX:a.eval A=X at hx
   cases hx with
   |rptrold _ hn=>omega
   | @rptr _ _ _ _ _ _ b m c hlt hn hv=>
     rw [hv] at hsl
     cases hsl with
     |sl sz2 ad vals hc hA hsz2 hone hcell hrep=>
      have hne:xs≠[]:=by intro hh;subst hh;simp at hcs
      obtain ⟨hA1,hA2,hA3⟩:=hA hne
      injection hA1 with hA1
      subst hA1
      have e1:=hsz i cs hcs
      have e2:=hsz2 i cs hcs
      have:sz2=sz:=by omega
      subst this
      obtain ⟨x,hx',hrun⟩:=read_sound (e:=e) g hr b (i*sz2) (fun j=>vals i j) (fun j s hj=>by
       have:=hcell i cs j s hcs hj
       simpa using this) (fun j s hj=>(hrep i cs j s hcs hj).env) (hok.row _ _ _ _ _ _ _ ho h1 _)
      exact ⟨r,x,h,hx',fin _ x hX hrun⟩
  ·exact h.elim
 ·exact h.elim
end
end Go.Ab
namespace Go.Ab
set_option linter.unusedVariables false
set_option linter.unusedSimpArgs false
section
variable {X:Nat→Prop} {P:Program} {G:Tys} {S:St} {a:Act} {w:World} {F:Nat→Prop} {e:Env}
theorem field_at {t:TypeId} {ti:TI} {fs:List (Nat×TypeId)} (g:aq P t ti) (hu:ti.u= .struct fs) {f off:Nat} {ft:TypeId} (hf:fs[f]? =some (off,ft)):
 ∃gs fd,P.underlying t=some (.struct gs)∧gs[f]? =some fd∧fd.offset=off∧fd.type=ft:=by
 obtain ⟨gs,hde,hfs,_⟩:=g.struct hu
 subst hfs
 rw [List.getElem?_map] at hf
 cases hj:gs.toList[f]? with
 |none=>rw [hj] at hf;cases hf
 |some fd=>
  rw [hj] at hf
  simp at hf
  exact ⟨gs,fd,hde,by simpa using hj,hf.1,hf.2⟩
theorem run_fieldAt {t:TypeId} {ti tf:TI} {fs:List (Nat×TypeId)} (g:aq P t ti) (hu:ti.u= .struct fs) {f off:Nat} {ft:TypeId} (hf:fs[f]? =some (off,ft)) (gf:aq P ft tf) (hz:tf.size≠0) (ad:Addr) (w':World):
 (Instr.fieldAt t (.pointer (some ad)) f).run P w'= .ok (.pointer (some (ad.add off))) w':=by
 obtain ⟨gs,fd,hde,hgs,h1,h2⟩:=field_at g hu hf
 have hs:=gf.sizeOf w'
 rw [←h2] at hs
 simp [Instr.fieldAt,run_underlying hde,hgs,Instr.sureAddr,fieldPlace,hs,hz,h1]
theorem fieldAddrV_sound (hG:TyOk P G) (H:Here S a w F e) {T:TypeId} {A:Operand} {f:Nat} {q:AV→Prop} {o:Oper} (ho:o.op= .fieldAddr T A f) (h:fieldAddrV G S T (S.ev A) f q):Sound1 X P o a w F e q:=by
 have hx:=H.ev A
 unfold fieldAddrV at h
 split at h
 case h_2=>exact h.elim
 rename_i ti ht
 split at h
 case h_2=>exact h.elim
 rename_i fs hu
 split at h
 case h_2=>exact h.elim
 rename_i off ft hf
 split at h
 case h_2=>exact h.elim
 rename_i tf htf
 obtain ⟨hz,h⟩:=h.len
 have hz:tf.size≠0:=by omega
 have fin: ∀(ad:Addr),a.eval A= .pointer (some ad)→Yields1 X P o a w (.pointer (some (ad.add off))):=by
  intro ad hA w' _
  simp [execOp,ho,hA,run_fieldAt (hG.get ht) hu hf (hG.get htf) hz ad w']
 split at h
 ·rename_i ob k h1
  rw [h1] at hx
  obtain ⟨hl,ex⟩:=hx.ptr_inv
  exact ⟨_,_,h,by rw [cy rfl];exact .ptr hl,fin _ ex⟩
 ·rename_i cs h1
  rw [h1] at hx
  obtain ⟨ad,vals,ex,hF,hsp,hcell,hrep⟩:=hx.eptr_inv
  refine ⟨_,_,h,?_,fin _ ex⟩
  rw [cy hsp]
  refine .eptr _ (fun j=>vals (off+j)) hF rfl (fun j s hj=> ?_) (fun j s hj=> ?_)
  ·rw [List.getElem?_drop] at hj
   have:=hcell _ s hj
   simpa [Nat.add_assoc] using this
  ·rw [List.getElem?_drop] at hj
   exact hrep _ s hj
 ·rename_i ob n sz i k h1
  rw [h1] at hx
  split at h
  case h_2=>exact h.elim
  rename_i el sz' xs hob
  obtain ⟨hn',h⟩:=h
  obtain ⟨hrl,_⟩:=H.heap.ob ob _ hob
  generalize hX:a.eval A=X at hx
  cases hx with
  |rptrold hl hn=>omega
  |rptr hl hn hv=>
   refine ⟨_,_,h,?_,fin _ hX⟩
   rw [cy rfl,Nat.add_assoc]
   exact .rptr hl hn hv
 ·exact h.elim
theorem fieldV_sound (hG:TyOk P G) (H:Here S a w F e) {T:TypeId} {A:Operand} {f:Nat} {q:AV→Prop} {o:Oper} (ho:o.op= .field T A f) (h:fieldV G T (S.ev A) f q):Sound1 X P o a w F e q:=by
 have hx:=H.ev A
 unfold fieldV at h
 split at h
 case h_2=>exact h.elim
 rename_i ti ht
 split at h
 case h_2=>exact h.elim
 rename_i fs hu
 split at h
 case h_2=>exact h.elim
 rename_i off ft hf
 split at h
 case h_2=>exact h.elim
 rename_i tf cs htf h1
 split at h
 case h_2=>exact h.elim
 rename_i r hr
 rw [h1] at hx
 obtain ⟨vs,ex,hsz,hrep⟩:=hx.agg_inv
 obtain ⟨x,hx',hrun⟩:=part_sound (hG.get htf) hr hsz hrep
 refine ⟨r,x,h,hx',fun w' _=> ?_⟩
 obtain ⟨gs,fd,hde,hgs,h2,h3⟩:=field_at (hG.get ht) hu hf
 have:=hrun w'
 rw [←h2,←h3] at this
 simp [execOp,ho,ex,Instr.field,run_underlying hde,hgs,asAgg,this]
theorem index_slice {t el:TypeId} {te:TI} (hde:P.underlying t=some (.slice el)) (ge:aq P el te) (k:IntKind) (n:Int) (ad:Addr) (m c:Nat) (h0:0≤n) (h1:n<(m:Int)) (w':World):
 (Instr.indexAt t (.slice (some ad) m c) (.int k n)).run P w'= .ok (.pointer (some (ad.add (n.toNat*te.size)))) w':=by
 simp [Instr.indexAt,asIntOf,run_underlying hde,h0,h1,ge.sizeOf w']
theorem indexAddrV_sound (hG:TyOk P G) (H:Here S a w F e) {T:TypeId} {A I:Operand} {q:AV→Prop} {o:Oper} (ho:o.op= .indexAddr T A I) (h:indexAddrV G S T (S.ev A) (S.ev I) q):Sound1 X P o a w F e q:=by
 have hx:=H.ev A
 have hi:=H.ev I
 unfold indexAddrV at h
 split at h
 case h_2=>exact h.elim
 rename_i ti k n ht h2
 rw [h2] at hi
 have ei:=hi.v_inv
 split at h
 ·rename_i el hu
  have hde:=(hG.get ht).slice hu
  split at h
  case h_2=>exact h.elim
  rename_i te hte
  have ge:=hG.get hte
  split at h
  ·rename_i xs h1
   rw [h1] at hx
   obtain ⟨h0,h⟩:=h
   obtain ⟨cs,hcs,hlen,hq⟩:=h.out
   generalize hX:a.eval A=X at hx
   cases hx with
   | @sl _ _ A' c sz ad vals hc hA hsz hone hcell hrep=>
     have hne:xs≠[]:=by intro hh;subst hh;simp at hcs
     obtain ⟨hA1,hA2,hA3⟩:=hA hne
     subst hA1
     have hil:n.toNat<xs.length:=(List.getElem?_eq_some_iff.1 hcs).1
     have hsz':sz=te.size:=by rw [←hsz _ _ hcs,hlen]
     subst hsz'
     refine ⟨_,.pointer (some (ad.add (n.toNat*te.size))),hq,?_,fun w' _=>by simp [execOp,ho,hX,ei,index_slice hde ge k n ad xs.length c h0 (by omega) w']⟩
     rw [cy hA3]
     exact .eptr _ (fun j=>vals n.toNat j) hA2 rfl (fun j s hj=>hcell _ _ j s hcs hj) (fun j s hj=>hrep _ _ j s hcs hj)
  ·rename_i ob m h1
   rw [h1] at hx
   split at h
   ·rename_i el' sz xs hob
    obtain ⟨hsz,h⟩:=h.eqn
    obtain ⟨⟨hm,h0,hlt⟩,hq⟩:=h
    obtain ⟨hrl,hown⟩:=H.heap.ob ob _ hob
    obtain ⟨_,hown⟩:=hown
    generalize hX:a.eval A=X at hx
    cases hx with
    |rowold _ hn=>omega
    | @row _ _ _ A2 m2 c2 hl hn hv2=>
      replace hX:=hX.trans hv2.symm
      rcases hown with ⟨hnil,_⟩|⟨b,c,vs,hv,hF,hb,hvs,hle,hmx,hrep⟩
      ·subst hnil;simp at hm;omega
      ·refine ⟨_,_,hq,.rptr hl hn hv,fun w' _=> ?_⟩
       rw [hv] at hX
       have:=index_slice (P:=P) hde ge k n ⟨b,0,none⟩ xs.length c h0 (by omega) w'
       rw [cy rfl] at this
       simp only [Nat.zero_add] at this
       simp [execOp,ho,hX,ei,this,hsz]
   ·rename_i sz xs hob
    obtain ⟨hsz,h⟩:=h.eqn
    obtain ⟨⟨hm,h0,hlt⟩,h⟩:=h
    obtain ⟨cs,hcs,hq⟩:=h.out
    obtain ⟨hrl,hsz2,hsl⟩:=H.heap.ob ob _ hob
    generalize hX:a.eval A=X at hx
    cases hx with
    |rowold _ hn=>omega
    | @row _ _ _ A2 m2 c2 hl hn hv2=>
      replace hX:=hX.trans hv2.symm
      clear hv2
      generalize e.rowv ob=X at hsl hX
      cases hsl with
      | @sl _ _ A' c sz3 ad vals hc hA hsz3 hone hcell hrep=>
        have hne:xs≠[]:=by intro hh;subst hh;simp at hcs
        obtain ⟨hA1,hA2,hA3⟩:=hA hne
        subst hA1
        have hsz':sz3=te.size:=by rw [←hsz3 _ _ hcs,←hsz,hsz2 _ _ hcs]
        subst hsz'
        refine ⟨_,.pointer (some (ad.add (n.toNat*te.size))),hq,?_,fun w' _=>by simp [execOp,ho,hX,ei,index_slice hde ge k n ad xs.length c h0 (by omega) w']⟩
        rw [cy hA3]
        exact .eptr _ (fun j=>vals n.toNat j) hA2 rfl (fun j s hj=>hcell _ _ j s hcs hj) (fun j s hj=>hrep _ _ j s hcs hj)
   ·exact h.elim
  ·rename_i ob m sz lo hi h1
   rw [h1] at hx
   split at h
   case h_2=>exact h.elim
   rename_i el' sz' xs hob
   have hh:=h.elim
   clear h
   obtain ⟨hz,⟨⟨hm,h0,hlt⟩,hq⟩⟩:=hh
   simp only [Bool.and_eq_true] at hz
   have hsz:=Nat.eq_of_beq_eq_true hz.1
   obtain ⟨hrl,hown⟩:=H.heap.ob ob _ hob
   obtain ⟨_,hown⟩:=hown
   generalize hX:a.eval A=X at hx
   cases hx with
   |vwold _ hn=>omega
   | @vw _ _ _ _ _ _ b mm c off hl hn hv hle hhi hpos hoff=>
     rcases hown with ⟨hnil,_⟩|⟨b',c',vs,hv',hF,hb,hvs,hcap,hmx,hrep⟩
     ·subst hnil;simp at hm;omega
     ·rw [hv] at hv'
      injection hv' with hv' hmm hcc
      subst hcc
      refine ⟨_,_,hq,.rptr hl hn hv,fun w' _=> ?_⟩
      have:=index_slice (P:=P) hde ge k n ⟨b,off,none⟩ (hi - lo) (c - lo) h0 hlt w'
      rw [hoff (by omega)] at hX this
      rw [cy rfl] at this
      have e1:(lo+n.toNat)*sz+0=lo*sz+n.toNat*te.size:=by rw [Nat.add_mul,hsz];rfl
      rw [e1]
      simp [execOp,ho,hX,ei,this]
  ·exact h.elim
 ·rename_i len el hu
  have hde:=(hG.get ht).arr hu
  split at h
  case h_2=>exact h.elim
  rename_i te hte
  have ge:=hG.get hte
  split at h
  ·rename_i ob kk h1
   rw [h1] at hx
   obtain ⟨⟨h0,hlt⟩,hq⟩:=h
   obtain ⟨hl,ex⟩:=hx.ptr_inv
   refine ⟨_,.pointer (some ⟨e.blk ob,kk+n.toNat*te.size,none⟩),hq,.ptr hl,fun w' _=> ?_⟩
   simp [execOp,ho,ex,ei,Instr.indexAt,asIntOf,run_underlying hde,Instr.sureAddr,h0,hlt,ge.sizeOf w',cy]
  ·rename_i ob m sz i off h1
   rw [h1] at hx
   split at h
   case h_2=>exact h.elim
   rename_i el' sz' xs hob
   have hh:=h.elim
   clear h
   obtain ⟨hz,⟨⟨hm,hml,h0,hlt⟩,hq⟩⟩:=hh
   simp only [Bool.and_eq_true] at hz
   have z1:=Nat.eq_of_beq_eq_true hz.1.1.1
   have z3:=Nat.eq_of_beq_eq_true hz.1.2
   have z4:=Nat.eq_of_beq_eq_true hz.2
   subst z3;subst z4
   obtain ⟨hrl,_⟩:=H.heap.ob ob _ hob
   generalize hX:a.eval A=X at hx
   cases hx with
   |rptrold _ hn=>omega
   | @rptr _ _ _ _ _ _ b mm c hl hn hv=>
     refine ⟨_,.pointer (some ⟨b,n.toNat*sz+0,none⟩),hq,.rptr hl hn hv,fun w' _=> ?_⟩
     have hlt':n<(len:Int):=by omega
     simp [execOp,ho,hX,ei,Instr.indexAt,asIntOf,run_underlying hde,Instr.sureAddr,h0,hlt',ge.sizeOf w',cy,z1]
  ·exact h.elim
 ·exact h.elim
theorem indexV_sound (hG:TyOk P G) (H:Here S a w F e) {T:TypeId} {A I:Operand} {q:AV→Prop} {o:Oper} (ho:o.op= .index T A I) (h:indexV G T (S.ev A) (S.ev I) q):Sound1 X P o a w F e q:=by
 have hx:=H.ev A
 have hi:=H.ev I
 unfold indexV at h
 split at h
 case h_2=>exact h.elim
 rename_i ti k n ht h2
 rw [h2] at hi
 have ei:=hi.v_inv
 split at h
 case h_2=>exact h.elim
 rename_i s hu h1
 rw [h1] at hx
 have ex:=hx.v_inv
 have hde:=(hG.get ht).str hu
 obtain ⟨⟨h0,hlt⟩,hq⟩:=h
 refine ⟨_,_,hq,.v,fun w' _=> ?_⟩
 have:s[n.toNat]? =some (byteAt s n.toNat):=by
  rw [getElem?_pos s n.toNat hlt]
  simp [byteAt,hlt]
 simp [execOp,ho,ex,ei,Instr.index,asIntOf,run_underlying hde,h0,this]
theorem boundV_inv {x:Option Operand} {d:Int} {q:Int→Prop} (H:Here S a w F e) (h:boundV (x.map S.ev) d q):
 ∃n,q n∧(x=none∧n=d∨ ∃A k,x=some A∧a.eval A= .int k n):=by
 cases x with
 |none=>exact ⟨d,h,.inl ⟨rfl,rfl⟩⟩
 |some A=>
  have hx:=H.ev A
  simp only [Option.map_some,boundV] at h
  split at h
  ·rename_i hh;cases hh
  ·rename_i k n h1
   injection h1 with h1
   rw [h1] at hx
   exact ⟨_,h,.inr ⟨A,k,rfl,hx.v_inv⟩⟩
  ·exact h.elim
theorem bounds_run {isSlice:Bool} {lo hi:Option Operand} {l h:Int} {len cap:Nat} (hc:len≤cap) (hl:lo=none∧l=0∨ ∃A k,lo=some A∧a.eval A= .int k l)
 (hh:hi=none∧h=len∨ ∃A k,hi=some A∧a.eval A= .int k h) (h0:0≤l) (h1:l≤h) (h2:h≤len) (w':World):
 (Instr.sliceBounds isSlice len cap (lo.map a.eval) (hi.map a.eval) none).run P w'= .ok (l.toNat,h.toNat,cap) w':=by
 have hb: ∀(x:Value) (k:IntKind) (n:Int) (y:Nat) (c:BoundsCode),x= .int k n→0≤n→n≤y→(Instr.sliceBound x y c).run P w'= .ok n.toNat w':=by
  intro x k n y c hx p1 p2
  subst hx
  simp [Instr.sliceBound,asIntOf,p1,p2]
 unfold Instr.sliceBounds
 rcases hh with ⟨rfl,rfl⟩|⟨B,kb,rfl,hB⟩
 ·rcases hl with ⟨rfl,rfl⟩|⟨A,ka,rfl,hA⟩
  ·simp
  ·simp [hb _ ka l len .sliceB hA h0 (by omega)]
 ·rcases hl with ⟨rfl,rfl⟩|⟨A,ka,rfl,hA⟩
  ·simp [hb _ kb h cap _ hB (by omega) (by omega)]
  ·simp [hb _ kb h cap _ hB (by omega) (by omega),hb _ ka l h.toNat .sliceB hA h0 (by omega)]
theorem sliceV_sound (hG:TyOk P G) (H:Here S a w F e) {T:TypeId} {A:Operand} {lo hi:Option Operand} {q:AV→Prop} {o:Oper} (ho:o.op= .slice T A lo hi none) (h:sliceV G S T (S.ev A) (lo.map S.ev) (hi.map S.ev) q):Sound1 X P o a w F e q:=by
 have hx:=H.ev A
 unfold sliceV at h
 split at h
 case h_2=>exact h.elim
 rename_i ti ht
 split at h
 ·rename_i s hu h1
  rw [h1] at hx
  have ex:=hx.v_inv
  have hde:=(hG.get ht).str hu
  obtain ⟨l,h,hl⟩:=boundV_inv H h
  obtain ⟨hh,h,hhi⟩:=boundV_inv H h
  obtain ⟨⟨h0,h1',h2⟩,hq⟩:=h
  refine ⟨_,_,hq,.v,fun w' _=> ?_⟩
  have:=bounds_run (P:=P) (isSlice:=false) (len:=s.size) (cap:=s.size) (Nat.le_refl _) hl hhi h0 h1' h2 w'
  have hat:(Instr.sliceAt T (a.eval A) (lo.map a.eval) (hi.map a.eval) none).run P w'= .ok (.string (s.extract l.toNat hh.toNat)) w':=by
   simp [Instr.sliceAt,run_underlying hde,ex,Instr.slice,this]
  simp [execOp,ho,hat]
 ·rename_i el xs hu h1
  rw [h1] at hx
  have hde:=(hG.get ht).slice hu
  split at h
  case h_2=>exact h.elim
  rename_i te hte
  have ge:=hG.get hte
  obtain ⟨hall,h⟩:=h
  obtain ⟨l,h,hl⟩:=boundV_inv H h
  obtain ⟨hh,h,hhi⟩:=boundV_inv H h
  obtain ⟨⟨h0,h1',h2⟩,hq⟩:=h
  generalize hX:a.eval A=X at hx
  cases hx with
  | @sl _ _ A' c sz ad vals hc hA hsz hone hcell hrep=>
    have:=fun w'=>bounds_run (P:=P) (isSlice:=true) (len:=xs.length) (cap:=c) hc hl hhi h0 h1' h2 w'
    have hlen:((xs.take hh.toNat).drop l.toNat).length=hh.toNat - l.toNat:=by
     rw [List.length_drop,List.length_take];omega
    refine ⟨_,.slice (if c=l.toNat then A' else A'.map (·.add (l.toNat*te.size))) ((xs.take hh.toNat).drop l.toNat).length (c - l.toNat),hq,?_,fun w' _=> ?_⟩
    ·refine .sl sz (ad.add (l.toNat*te.size)) (fun i j=>vals (l.toNat+i) j) (by rw [hlen];omega) (fun hne=> ?_) (fun i cs hi'=> ?_) (fun i cs hi'=> ?_) (fun i cs j s hi' hj=> ?_) (fun i cs j s hi' hj=> ?_)
     ·have hxs:xs≠[]:=by intro hh;subst hh;simp at hne
      obtain ⟨hA1,hA2,hA3⟩:=hA hxs
      have hpos:0<((xs.take hh.toNat).drop l.toNat).length:=List.length_pos_iff.2 hne
      rw [hlen] at hpos
      rw [if_neg (by omega),hA1]
      refine ⟨rfl,?_,?_⟩
      ·rw [cy hA3];exact hA2
      ·rw [cy hA3]
     all_goals
      have hlt:l.toNat+i<hh.toNat:=by
       have:=(List.getElem?_eq_some_iff.1 hi').1
       rw [hlen] at this
       omega
      have hi2:xs[l.toNat+i]? =some cs:=by
       rw [List.getElem?_drop,List.getElem?_take_of_lt hlt] at hi'
       exact hi'
     ·exact hsz _ _ hi2
     ·exact hone _ _ hi2
     ·have hxs:xs≠[]:=by intro hh;subst hh;simp at hi2
      obtain ⟨hA1,hA2,hA3⟩:=hA hxs
      have hsz':sz=te.size:=by rw [←hsz _ _ hi2];exact hall _ (List.mem_of_getElem? hi2)
      subst hsz'
      have:=hcell _ cs j s hi2 hj
      rw [cy hA3]
      simp only
      rw [Nat.add_mul,←Nat.add_assoc] at this
      exact this
     ·exact hrep _ cs j s hi2 hj
    ·have hat:(Instr.sliceAt T (.slice A' xs.length c) (lo.map a.eval) (hi.map a.eval) none).run P w'= .ok (.slice (if c=l.toNat then A' else A'.map (·.add (l.toNat*te.size))) (hh.toNat - l.toNat) (c - l.toNat)) w':=by
      simp [Instr.sliceAt,run_underlying hde,Instr.slice,ge.sizeOf w',this w']
     simp [execOp,ho,hX,hat,hlen]
 ·rename_i el ob m hu h1
  rw [h1] at hx
  have hde:=(hG.get ht).slice hu
  split at h
  case h_2=>exact h.elim
  rename_i te el' sz xs hte hob
  have ge:=hG.get hte
  have hh:=h.eqn
  clear h
  obtain ⟨hsz,⟨⟨hm,hpos⟩,h⟩⟩:=hh
  obtain ⟨l,h,hl⟩:=boundV_inv H h
  obtain ⟨hh,h,hhi⟩:=boundV_inv H h
  obtain ⟨⟨h0,h1',h2⟩,hq⟩:=h
  obtain ⟨hrl,hown⟩:=H.heap.ob ob _ hob
  obtain ⟨_,hown⟩:=hown
  generalize hX:a.eval A=X at hx
  cases hx with
  |rowold _ hn=>omega
  | @row _ _ _ A2 m2 c2 hlt hn hv2=>
    rcases hown with ⟨hnil,_⟩|⟨b,c,vs,hv,hF,hb,hvs,hle,hmx,hrep⟩
    ·subst hnil;simp at hm;omega
    ·rw [hv] at hv2
     injection hv2 with e1 e2 e3
     subst e1 e2 e3
     refine ⟨_,.slice (some ⟨b,if c=l.toNat then 0 else l.toNat*sz,none⟩) (hh.toNat - l.toNat) (c - l.toNat),hq,.vw hlt hn hv (by omega) (by omega) (by omega) (fun h=>if_neg (by omega)),fun w' _=> ?_⟩
     rw [hm] at hhi h2
     have hbr:=bounds_run (P:=P) (isSlice:=true) (len:=xs.length) (cap:=c) hle hl hhi h0 h1' h2 w'
     have hat:(Instr.sliceAt T (.slice (some ⟨b,0,none⟩) xs.length c) (lo.map a.eval) (hi.map a.eval) none).run P w'= .ok (.slice (if c=l.toNat then some ⟨b,0,none⟩ else some ((⟨b,0,none⟩:Addr).add (l.toNat*te.size))) (hh.toNat - l.toNat) (c - l.toNat)) w':=by
      simp [Instr.sliceAt,run_underlying hde,Instr.slice,ge.sizeOf w',hbr]
     have e3:(if c=l.toNat then some (⟨b,0,none⟩:Addr) else some ((⟨b,0,none⟩:Addr).add (l.toNat*te.size)))=some ⟨b,if c=l.toNat then 0 else l.toNat*sz,none⟩:=by
      rw [cy rfl,hsz]
      split<;>simp
     rw [e3] at hat
     simp [execOp,ho,hX,hat]
 ·rename_i el ob m sz aa bb hu h1
  rw [h1] at hx
  have hde:=(hG.get ht).slice hu
  split at h
  case h_2=>exact h.elim
  rename_i te el' sz' xs hte hob
  have ge:=hG.get hte
  have hh:=h.elim
  clear h
  obtain ⟨hz,⟨hm,h⟩⟩:=hh
  simp only [Bool.and_eq_true] at hz
  have hsz:=Nat.eq_of_beq_eq_true hz.1
  obtain ⟨l,h,hl⟩:=boundV_inv H h
  obtain ⟨hh,h,hhi⟩:=boundV_inv H h
  obtain ⟨⟨h0,h1',h2⟩,hq⟩:=h
  obtain ⟨hrl,hown⟩:=H.heap.ob ob _ hob
  obtain ⟨_,hown⟩:=hown
  generalize hX:a.eval A=X at hx
  cases hx with
  |vwold _ hn=>omega
  | @vw _ _ _ _ _ _ b mm c off hlt hn hv hle hhi2 hpos hoff=>
    rcases hown with ⟨hnil,_⟩|⟨b',c',vs,hv',hF,hb,hvs,hcap,hmx,hrep⟩
    ·subst hnil;simp at hm;omega
    ·rw [hv] at hv'
     injection hv' with hv' hmm hcc
     subst hcc
     refine ⟨_,.slice (some ⟨b,if c - aa=l.toNat then off else off+l.toNat*te.size,none⟩) (aa+hh.toNat - (aa+l.toNat)) (c - (aa+l.toNat)),hq,.vw hlt hn hv (by omega) (by omega) hpos (fun h=>by rw [if_neg (by omega),hoff (by omega),Nat.add_mul,hsz]),fun w' _=> ?_⟩
     have hbr:(Instr.sliceBounds true (bb - aa) (c - aa) (lo.map a.eval) (hi.map a.eval) none).run P w'= .ok (l.toNat,hh.toNat,c - aa) w':=by
      have hb: ∀(x:Value) (k:IntKind) (n:Int) (y:Nat) (c:BoundsCode),x= .int k n→0≤n→n≤y→(Instr.sliceBound x y c).run P w'= .ok n.toNat w':=by
       intro x k n y c hx p1 p2
       subst hx
       simp [Instr.sliceBound,asIntOf,p1,p2]
      unfold Instr.sliceBounds
      rcases hhi with ⟨rfl,rfl⟩|⟨B,kb,rfl,hB⟩
      ·rcases hl with ⟨rfl,rfl⟩|⟨A,ka,rfl,hA⟩
       ·simp
       ·simp [hb _ ka l (bb - aa) .sliceB hA h0 (by omega)]
      ·rcases hl with ⟨rfl,rfl⟩|⟨A,ka,rfl,hA⟩
       ·simp [hb _ kb hh (c - aa) _ hB (by omega) (by omega)]
       ·simp [hb _ kb hh (c - aa) _ hB (by omega) (by omega),hb _ ka l hh.toNat .sliceB hA h0 (by omega)]
     have hat:(Instr.sliceAt T (.slice (some ⟨b,off,none⟩) (bb - aa) (c - aa)) (lo.map a.eval) (hi.map a.eval) none).run P w'= .ok (.slice (if c - aa=l.toNat then some ⟨b,off,none⟩ else some ((⟨b,off,none⟩:Addr).add (l.toNat*te.size))) (hh.toNat - l.toNat) (c - aa - l.toNat)) w':=by
      simp [Instr.sliceAt,run_underlying hde,Instr.slice,ge.sizeOf w',hbr]
     have e3:(if c - aa=l.toNat then some (⟨b,off,none⟩:Addr) else some ((⟨b,off,none⟩:Addr).add (l.toNat*te.size)))=some ⟨b,if c - aa=l.toNat then off else off+l.toNat*te.size,none⟩:=by
      rw [cy rfl]
      split<;>simp
     rw [e3] at hat
     have e4:aa+hh.toNat - (aa+l.toNat)=hh.toNat - l.toNat:=by omega
     have e5:c - (aa+l.toNat)=c - aa - l.toNat:=by omega
     rw [e4,e5]
     simp [execOp,ho,hX,hat]
 ·rename_i len el ob m sz i off hu h1
  rw [h1] at hx
  have hde:=(hG.get ht).arr hu
  split at h
  case h_2=>exact h.elim
  rename_i te sz' xs hte hob
  have ge:=hG.get hte
  have hh:=h.elim
  clear h
  obtain ⟨hz,⟨⟨hm,hml,hpos⟩,h⟩⟩:=hh
  simp only [Bool.and_eq_true] at hz
  have z1:=Nat.eq_of_beq_eq_true hz.1.1.1
  have z2:=Nat.eq_of_beq_eq_true hz.1.1.2
  have z3:=Nat.eq_of_beq_eq_true hz.1.2
  have z4:=Nat.eq_of_beq_eq_true hz.2
  subst z3;subst z4;subst z2;subst hml
  obtain ⟨l,h,hl⟩:=boundV_inv H h
  obtain ⟨hh,h,hhi⟩:=boundV_inv H h
  obtain ⟨⟨h0,h1',h2⟩,hq⟩:=h
  obtain ⟨hrl,hszz,hsl⟩:=H.heap.ob ob _ hob
  generalize hX:a.eval A=X at hx
  cases hx with
  |rptrold _ hn=>omega
  | @rptr _ _ _ _ _ _ b mm c hlo hn hv=>
    rw [hv] at hsl
    generalize hY:(Value.slice (some ⟨b,0,none⟩) mm c)=Y at hsl
    cases hsl with
    | @sl _ _ A' c' sz3 ad vals hc hA hsz hone hcell hrep=>
      have hne:xs≠[]:=by intro hh;subst hh;simp at hm;omega
      obtain ⟨hA1,hA2,hA3⟩:=hA hne
      injection hY with hY _ _
      rw [hA1] at hY
      injection hY with hY
      subst hY
      have:=fun w'=>bounds_run (P:=P) (isSlice:=false) (len:=m) (cap:=m) (Nat.le_refl _) hl hhi h0 h1' h2 w'
      have hlen:((xs.take hh.toNat).drop l.toNat).length=hh.toNat - l.toNat:=by
       rw [List.length_drop,List.length_take];omega
      have hX':a.eval A= .pointer (some ⟨b,0,none⟩):=by rw [hX];simp
      have hs3:sz3=sz':=by
       obtain ⟨x,hx⟩: ∃x,xs[0]? =some x:=⟨_,List.getElem?_eq_getElem (by omega)⟩
       rw [←hsz 0 x hx,hszz 0 x hx]
      subst hs3
      refine ⟨_,.slice (some (if m=l.toNat then ⟨b,0,none⟩ else (⟨b,0,none⟩:Addr).add (l.toNat*te.size))) ((xs.take hh.toNat).drop l.toNat).length (m - l.toNat),hq,?_,fun w' _=> ?_⟩
      ·refine .sl sz3 ((⟨b,0,none⟩:Addr).add (l.toNat*sz3)) (fun i j=>vals (l.toNat+i) j) (by rw [hlen];omega) (fun hne=> ?_) (fun i cs hi'=> ?_) (fun i cs hi'=> ?_) (fun i cs j s hi' hj=> ?_) (fun i cs j s hi' hj=> ?_)
       ·have hpos:0<((xs.take hh.toNat).drop l.toNat).length:=List.length_pos_iff.2 hne
        rw [hlen] at hpos
        rw [if_neg (by omega)]
        refine ⟨by rw [←z1],?_,?_⟩
        ·rw [cy rfl];exact hA2
        ·rw [cy rfl]
       all_goals
        have hlt:l.toNat+i<hh.toNat:=by
         have:=(List.getElem?_eq_some_iff.1 hi').1
         rw [hlen] at this
         omega
        have hi2:xs[l.toNat+i]? =some cs:=by
         rw [List.getElem?_drop,List.getElem?_take_of_lt hlt] at hi'
         exact hi'
       ·exact hsz _ _ hi2
       ·exact hone _ _ hi2
       ·have:=hcell _ cs j s hi2 hj
        rw [cy rfl]
        simp only
        rw [Nat.add_mul,←Nat.add_assoc] at this
        exact this
       ·exact hrep _ cs j s hi2 hj
      ·have hat:(Instr.sliceAt T (.pointer (some ⟨b,0,none⟩)) (lo.map a.eval) (hi.map a.eval) none).run P w'= .ok (.slice (some (if m=l.toNat then ⟨b,0,none⟩ else (⟨b,0,none⟩:Addr).add (l.toNat*te.size))) (hh.toNat - l.toNat) (m - l.toNat)) w':=by
        simp [Instr.sliceAt,run_underlying hde,Instr.sureAddr,ge.sizeOf w',this w']
       simp [execOp,ho,hX',hat,hlen]
 ·exact h.elim
theorem slice3V_sound (hG:TyOk P G) (H:Here S a w F e) {T:TypeId} {A M:Operand} {lo hi:Option Operand} {q:AV→Prop} {o:Oper} (ho:o.op= .slice T A lo hi (some M)) (h:slice3V G S T (S.ev A) (lo.map S.ev) (hi.map S.ev) (S.ev M) q):Sound1 X P o a w F e q:=by
 have hx:=H.ev A
 have hM:=H.ev M
 unfold slice3V at h
 split at h
 case h_2=>exact h.elim
 rename_i ti ht
 split at h
 case h_3=>exact h.elim
 case h_2=>
  rename_i el xs k mx hu h1 h2
  rw [h1] at hx
  rw [h2] at hM
  have eM:=hM.v_inv
  have hde:=(hG.get ht).slice hu
  obtain ⟨hsome,h⟩:=h.elim
  obtain ⟨te,hte⟩:=Option.isSome_iff_exists.1 hsome
  have ge:=hG.get hte
  obtain ⟨l,h,hl⟩:=boundV_inv H h
  obtain ⟨hh,h,hhi⟩:=boundV_inv H h
  obtain ⟨⟨hne,h0,h1',h2'⟩,hq⟩:=h
  obtain ⟨B,kb,hBe,hB⟩: ∃B k,hi=some B∧a.eval B= .int k hh:=by
   rcases hhi with ⟨rfl,_⟩|h
   ·simp at hne
   ·exact h
  subst hBe h0 h1' h2'
  generalize hX:a.eval A=X at hx
  have hx2:=hx
  cases hx with
  | @sl _ _ A' c sz ad vals hc hA hsz hone hcell hrep=>
    have hrep2:ch w F e (.slc xs) (.slice A' xs.length xs.length):= .slc rfl (.sl sz ad vals (Nat.le_refl _) hA hsz hone hcell hrep)
    refine ⟨_,.slice A' xs.length xs.length,hq,hrep2,fun w' _=> ?_⟩
    have hb: ∀(x:Value) (k:IntKind) (n:Int) (y:Nat) (c:BoundsCode),x= .int k n→0≤n→n≤y→(Instr.sliceBound x y c).run P w'= .ok n.toNat w':=by
     intro x k n y c hx p1 p2
     subst hx
     simp [Instr.sliceBound,asIntOf,p1,p2]
    have hbr:(Instr.sliceBounds true xs.length c (lo.map a.eval) (some (a.eval B)) (some (a.eval M))).run P w'= .ok (0,xs.length,xs.length) w':=by
     unfold Instr.sliceBounds
     rcases hl with ⟨rfl,_⟩|⟨L,ka,rfl,hA0⟩
     ·simp [hb _ k xs.length c _ eM (by omega) (by omega),hb _ kb xs.length xs.length _ hB (by omega) (by omega)]
     ·simp [hb _ k xs.length c _ eM (by omega) (by omega),hb _ kb xs.length xs.length _ hB (by omega) (by omega),hb _ ka 0 xs.length _ hA0 (by omega) (by omega)]
    have hval:(if xs.length=0 then A' else A'.map (·.add (0*te.size)))=A':=by
     by_cases hx0:xs=[]
     ·rw [if_pos (by simp [hx0])]
     ·obtain ⟨hA1,_,hA3⟩:=hA hx0
      rw [if_neg (by simpa using hx0),hA1]
      simp only [Option.map_some,Nat.zero_mul]
      rw [cy hA3]
      cases ad
      simp_all
    have hat:(Instr.sliceAt T (.slice A' xs.length c) (lo.map a.eval) (some (a.eval B)) (some (a.eval M))).run P w'= .ok (.slice A' xs.length xs.length) w':=by
     have:(Instr.sliceAt T (.slice A' xs.length c) (lo.map a.eval) (some (a.eval B)) (some (a.eval M))).run P w'= .ok (.slice (if xs.length=0 then A' else A'.map (·.add (0*te.size))) xs.length xs.length) w':=by
      simp [Instr.sliceAt,run_underlying hde,Instr.slice,ge.sizeOf w',hbr]
     rw [this,hval]
    simp [execOp,ho,hX,hat]
 rename_i el ob m k mx hu h1 h2
 rw [h1] at hx
 rw [h2] at hM
 have eM:=hM.v_inv
 have hde:=(hG.get ht).slice hu
 split at h
 case h_2=>exact h.elim
 rename_i te el' sz xs hte hob
 have ge:=hG.get hte
 obtain ⟨hm,h⟩:=h
 obtain ⟨l,h,hl⟩:=boundV_inv H h
 obtain ⟨hh,h,hhi⟩:=boundV_inv H h
 obtain ⟨⟨hne,h0,h1',h2',h3⟩,hq⟩:=h
 obtain ⟨hrl,hown⟩:=H.heap.ob ob _ hob
 obtain ⟨_,hown⟩:=hown
 obtain ⟨B,kb,hBe,hB⟩: ∃B k,hi=some B∧a.eval B= .int k hh:=by
  rcases hhi with ⟨rfl,_⟩|h
  ·simp at hne
  ·exact h
 subst hBe
 generalize hX:a.eval A=X at hx
 cases hx with
 |rowold _ hn=>omega
 | @row _ _ _ A2 m2 c2 hlt hn hv2=>
   have hcap: ∃n2:Nat,m2=n2∧m=m2∧m≤c2:=by
    rcases hown with ⟨hnil,hv⟩|⟨b,c,vs,hv,hF,hb,hvs,hle,hmx,hrep⟩
    ·rw [hv] at hv2
     injection hv2 with e1 e2 e3
     subst e1 e2 e3 hnil
     simp at hm
     exact ⟨0,rfl,hm,by omega⟩
    ·rw [hv] at hv2
     injection hv2 with e1 e2 e3
     subst e1 e2 e3
     exact ⟨_,rfl,hm,by omega⟩
   obtain ⟨_,_,hmm,hle⟩:=hcap
   refine ⟨_,.slice (if mx.toNat=l.toNat then A2 else A2.map (·.add (l.toNat*te.size))) (hh.toNat - l.toNat) (mx.toNat - l.toNat),hq,.dead,fun w' _=> ?_⟩
   have hb: ∀(x:Value) (k:IntKind) (n:Int) (y:Nat) (c:BoundsCode),x= .int k n→0≤n→n≤y→(Instr.sliceBound x y c).run P w'= .ok n.toNat w':=by
    intro x k n y c hx p1 p2
    subst hx
    simp [Instr.sliceBound,asIntOf,p1,p2]
   have hbr:(Instr.sliceBounds true m2 c2 (lo.map a.eval) (some (a.eval B)) (some (a.eval M))).run P w'= .ok (l.toNat,hh.toNat,mx.toNat) w':=by
    unfold Instr.sliceBounds
    rcases hl with ⟨rfl,rfl⟩|⟨L,ka,rfl,hA⟩
    ·simp [hb _ k mx c2 _ eM (by omega) (by omega),hb _ kb hh mx.toNat _ hB (by omega) (by omega)]
    ·simp [hb _ k mx c2 _ eM (by omega) (by omega),hb _ kb hh mx.toNat _ hB (by omega) (by omega),hb _ ka l hh.toNat _ hA h0 (by omega)]
   have hat:(Instr.sliceAt T (.slice A2 m2 c2) (lo.map a.eval) (some (a.eval B)) (some (a.eval M))).run P w'= .ok (.slice (if mx.toNat=l.toNat then A2 else A2.map (·.add (l.toNat*te.size))) (hh.toNat - l.toNat) (mx.toNat - l.toNat)) w':=by
    simp [Instr.sliceAt,run_underlying hde,Instr.slice,ge.sizeOf w',hbr]
   simp [execOp,ho,hX,hat]
theorem lenV_sound (hG:TyOk P G) (H:Here S a w F e) {T:TypeId} {A:Operand} {q:AV→Prop} {o:Oper} (ho:o.op= .call {callee:= .builtin .len,args:= #[A],argTypes:= #[T]}) (h:lenV G S T (S.ev A) q):Sound1 X P o a w F e q:=by
 have hx:=H.ev A
 have fin: ∀(n:Nat),(∀w',(Builtin.len_ #[T] o.type #[a.eval A]).run P w'= .ok (goInt n) w')→Yields1 X P o a w (.int .i64 n):=by
  intro n hr w' _
  simp [execOp,ho,resolve,invoke,builtin,hr w',goInt]
 unfold lenV at h
 split at h
 case h_2=>exact h.elim
 rename_i ti ht
 split at h
 ·rename_i s hu h1
  rw [h1] at hx
  have hde:=(hG.get ht).str hu
  exact ⟨_,_,h,.v,fin _ fun w'=>by simp [Builtin.len_,run_underlying hde,hx.v_inv]⟩
 ·rename_i el xs hu h1
  rw [h1] at hx
  have hde:=(hG.get ht).slice hu
  obtain ⟨A',c,ex,_⟩:=hx.sl_inv
  exact ⟨_,_,h,.v,fin _ fun w'=>by simp [Builtin.len_,run_underlying hde,ex]⟩
 ·rename_i el ob n hu h1
  rw [h1] at hx
  have hde:=(hG.get ht).slice hu
  split at h
  case h_3=>exact h.elim
  ·rename_i el' sz xs hob
   obtain ⟨hn,h⟩:=h
   obtain ⟨hrl,hown⟩:=H.heap.ob ob _ hob
   obtain ⟨_,hown⟩:=hown
   generalize hX:a.eval A=X at hx
   cases hx with
   |rowold _ hn=>omega
   | @row _ _ _ A2 m2 c2 hl hn hv2=>
     replace hX:=hX.trans hv2.symm
     rw [hn] at h
     rcases hown with ⟨hnil,hv⟩|⟨b,c,vs,hv,_⟩
     ·refine ⟨_,_,h,.v,fin _ fun w'=> ?_⟩
      rw [hX,hv,hrl,hnil];simp [Builtin.len_,run_underlying hde]
     ·refine ⟨_,_,h,.v,fin _ fun w'=> ?_⟩
      rw [hX,hv,hrl];simp [Builtin.len_,run_underlying hde]
  ·rename_i sz xs hob
   obtain ⟨hn,h⟩:=h
   obtain ⟨hrl,_,hsl⟩:=H.heap.ob ob _ hob
   generalize hX:a.eval A=X at hx
   cases hx with
   |rowold _ hn=>omega
   | @row _ _ _ A2 m2 c2 hl hn hv2=>
     replace hX:=hX.trans hv2.symm
     rw [hn] at h
     obtain ⟨A',c,ex,_⟩:=hsl.sl_inv
     refine ⟨_,_,h,.v,fin _ fun w'=> ?_⟩
     rw [hX,ex,hrl];simp [Builtin.len_,run_underlying hde]
 ·rename_i el hu h1
  rw [h1] at hx
  have hde:=(hG.get ht).slice hu
  exact ⟨_,_,h,.v,fin 0 fun w'=>by simp [Builtin.len_,run_underlying hde,hx.v_inv]⟩
 ·rename_i el ob n sz lo hi hu h1
  rw [h1] at hx
  have hde:=(hG.get ht).slice hu
  split at h
  case h_2=>exact h.elim
  rename_i el' sz' xs hob
  obtain ⟨hn,h⟩:=h
  obtain ⟨hrl,hown⟩:=H.heap.ob ob _ hob
  generalize hX:a.eval A=X at hx
  cases hx with
  |vwold _ hn=>omega
  |vw hl hn hv hle hhi hpos hoff=>
   refine ⟨_,_,h,.v,fin (hi - lo) fun w'=> ?_⟩
   rw [hX];simp [Builtin.len_,run_underlying hde]
 ·exact h.elim
theorem minmaxV_sound (H:Here S a w F e) {mx:Bool} {A B:Operand} {ts:Array TypeId} {q:AV→Prop} {o:Oper} (ho:o.op= .call {callee:= .builtin (if mx then .max else .min),args:= #[A,B],argTypes:=ts}) (h:minmaxV mx (S.ev A) (S.ev B) q):Sound1 X P o a w F e q:=by
 have hx:=H.ev A
 have hy:=H.ev B
 unfold minmaxV at h
 split at h
 case h_2=>exact h.elim
 rename_i k m k' n h1 h2
 rw [h1] at hx;rw [h2] at hy
 refine ⟨_,_,h,.v,fun w' _=> ?_⟩
 cases mx
 ·simp [execOp,ho,resolve,invoke,builtin,hx.v_inv,hy.v_inv,Builtin.min_,Builtin.min2]
 ·simp [execOp,ho,resolve,invoke,builtin,hx.v_inv,hy.v_inv,Builtin.max_,Builtin.max2]
theorem conv_bytes {T dst el:TypeId} {ti td te:TI} (g1:P.underlying T=some (.slice el)) (g2:P.underlying el=some (.int .u8)) (g3:P.underlying dst=some .string) {b off m c:Nat} {l:List Int} (hm:m=l.length)
 (hcell: ∀(i:Nat) n,l[i]? =some n→w.cell? ⟨b,off+i,none⟩=some (.int .u8 n)) (hX: ∀b,¬X b) (w':World) (hw:Agree X w w'):
 (convert T dst (.slice (some ⟨b,off,none⟩) m c)).run P w'= .ok (.string (ofInts l)) w':=by
 rw [run_convert_bytes_string w' T dst el _ _ _ g1 g2 g3]
 refine run_bytesToString w' _ m c l ?_
 rw [hm,←List.length_map (f:=Value.int .u8)]
 refine run_loadCells_list w' _ _ (fun j v hj=> ?_)
 rw [List.getElem?_map] at hj
 cases hg:l[j]? with
 |none=>rw [hg] at hj;cases hj
 |some n=>
  rw [hg] at hj
  injection hj with hj
  subst hj
  have:=hw.cell (hX _) (hcell j n hg)
  rw [show (⟨b,off,none⟩:Addr).add j=⟨b,off+j,none⟩ from cy rfl j]
  exact this
theorem convV_sound (hG:TyOk P G) (H:Here S a w F e) {s d:TypeId} {A:Operand} {q:AV→Prop} {o:Oper} (ho:o.op= .convert s d A) (hok:XOk X F e S o.op) (h:convV G S s d (S.ev A) q):Sound1 X P o a w F e q:=by
 have hx:=H.ev A
 unfold convV at h
 split at h
 case h_2=>exact h.elim
 rename_i ts td hs hd
 obtain ⟨ds,hds,_⟩:=(hG.get hs).und
 split at h
 ·rename_i k k' n hu h1
  rw [h1] at hx
  have hde:=(hG.get hd).int hu
  refine ⟨_,_,h,.v,fun w' _=> ?_⟩
  simp [execOp,ho,convert,run_underlying hds,run_underlying hde,hx.v_inv,Conv.intToInt]
 ·rename_i z hu h1
  rw [h1] at hx
  have hde:=(hG.get hd).str hu
  refine ⟨_,_,h,.v,fun w' _=> ?_⟩
  cases ds<;>simp [execOp,ho,convert,run_underlying hds,run_underlying hde,hx.v_inv]
 ·rename_i x hu hno
  have hde:=(hG.get hd).str hu
  split at h
  case h_2=>exact h.elim
  rename_i el hsl
  have hse:=(hG.get hs).slice hsl
  split at h
  case h_2=>exact h.elim
  rename_i te hte
  split at h
  case h_2=>exact h.elim
  rename_i hu8
  have hee:=(hG.get hte).int hu8
  have fin: ∀(b off m c:Nat) (l:List Int),a.eval A= .slice (some ⟨b,off,none⟩) m c→m=l.length→(∀(i:Nat) n,l[i]? =some n→w.cell? ⟨b,off+i,none⟩=some (.int .u8 n))→(∀b,¬X b)→Yields1 X P o a w (.string (ofInts l)):=by
   intro b off m c l hA hm hcell hX w' hw
   have:=conv_bytes (ti:=ts) (td:=td) (te:=te) hse hee hde (c:=c) hm hcell hX w' hw
   simp [execOp,ho,hA,this]
  have nil: ∀(m c:Nat),a.eval A= .slice none m c→Yields1 X P o a w (.string (ofInts [])):=by
   intro m c hA w' hw
   have:=run_convert_bytes_string w' s d el none m c hse hee hde
   simp [execOp,ho,hA,this,Conv.bytesToString,ofInts]
  have hX:(∀v,S.ev A≠ .v v)→ ∀b,¬X b:=fun hn=>by
   rcases hok.cnv _ _ _ ho with ⟨v,hv⟩|h
   ·exact absurd hv (hn v)
   ·exact h
  unfold bytesV at h
  split at h
  ·rename_i xs h1
   obtain ⟨l,hl,h⟩:=h.out
   have hXb:=hX (fun v hv=>by rw [h1] at hv;cases hv)
   rw [h1] at hx
   generalize hAe:a.eval A=y at hx
   cases hx with
   | @sl _ _ A' c sz ad vals hc hA hsz hone hcell hrep=>
     by_cases hne:xs=[]
     ·subst hne
      have:l=[]:=by cases l with|nil=>rfl|cons x r=>cases hl
      subst this
      cases A' with
      |none=>exact ⟨_,_,h,.v,nil _ _ hAe⟩
      |some ad'=>
       refine ⟨_,_,h,.v,fun w' hw=> ?_⟩
       have e1:=run_convert_bytes_string w' s d el (some ad') 0 c hse hee hde
       have e2:=run_bytesToString (P:=P) w' ad' 0 c [] (run_loadCells_list w' ad' [] (fun j v hj=>by simp at hj))
       simp [execOp,ho,hAe,e1,e2,ofInts]
     ·obtain ⟨rfl,hF,hsp⟩:=hA hne
      have had:ad=⟨ad.block,ad.off,none⟩:=by cases ad;simp_all
      have h1sz:sz=1:=by
       cases l with
       |nil=>exact absurd hl hne
       |cons n r2=>exact (hsz 0 [.v (.int .u8 n)] (by rw [hl];rfl)).symm
      subst h1sz
      refine ⟨_,_,h,.v,fin ad.block ad.off xs.length c l (by rw [hAe,←had]) (by rw [hl];simp) (fun i n hi=> ?_) hXb⟩
      have hxi:xs[i]? =some [.v (.int .u8 n)]:=by rw [hl,List.getElem?_map,hi];rfl
      have c1:=hcell i _ 0 _ hxi rfl
      have c2:=(hrep i _ 0 _ hxi rfl).v_inv
      rw [c2] at c1
      simpa using c1
  ·rename_i ob n h1
   have hXb:=hX (fun v hv=>by rw [h1] at hv;cases hv)
   rw [h1] at hx
   generalize hAe:a.eval A=y at hx
   split at h
   ·rename_i el' sz xs hob
    obtain ⟨hsz1,h⟩:=h.elim
    have hsz1:=Nat.eq_of_beq_eq_true hsz1
    subst hsz1
    obtain ⟨hn,h⟩:=h
    obtain ⟨l,hl,h⟩:=h.out
    obtain ⟨hrl,hsz,hown⟩:=H.heap.ob ob _ hob
    cases hx with
    |rowold _ hn'=>omega
    | @row _ _ _ A' m c hlt hn' hv=>
      rcases hown with ⟨hnil,hv'⟩|⟨b',c',vs,hv',hF,hb,hvs,hle,hmx,hrep⟩
      ·rw [hv] at hv'
       injection hv' with e1 e2 e3
       subst e1
       have:l=[]:=by rw [hnil] at hl;cases l with|nil=>rfl|cons x r=>cases hl
       subst this
       exact ⟨_,_,h,.v,nil _ _ hAe⟩
      ·rw [hv] at hv'
       injection hv' with e1 e2 e3
       subst e1;subst e2
       refine ⟨_,_,h,.v,fin b' 0 _ c l hAe (by rw [hl];simp) (fun i k hi=> ?_) hXb⟩
       have hxi:xs[i]? =some [.v (.int .u8 k)]:=by rw [hl,List.getElem?_map,hi];rfl
       obtain ⟨y,hy,hyr⟩:=hrep i _ 0 _ hxi rfl
       rw [hyr.v_inv] at hy
       rw [cell_of_row w _ _ vs el' _ hb]
       simpa using hy
   ·rename_i sz xs hob
    obtain ⟨hsz1,h⟩:=h.elim
    have hsz1:=Nat.eq_of_beq_eq_true hsz1
    subst hsz1
    obtain ⟨hn,h⟩:=h
    obtain ⟨l,hl,h⟩:=h.out
    obtain ⟨hrl,hsz,hsl⟩:=H.heap.ob ob _ hob
    cases hx with
    |rowold _ hn'=>omega
    | @row _ _ _ A' m c hlt hn' hv=>
      rw [hv] at hsl
      cases hsl with
      | @sl _ _ _ _ sz2 ad vals hc hA hsz2 hone hcell hrep=>
        by_cases hne:xs=[]
        ·subst hne
         have:l=[]:=by cases l with|nil=>rfl|cons x r=>cases hl
         subst this
         cases A' with
         |none=>exact ⟨_,_,h,.v,nil _ _ hAe⟩
         |some ad'=>
          refine ⟨_,_,h,.v,fun w' hw=> ?_⟩
          have e1:=run_convert_bytes_string w' s d el (some ad') 0 c hse hee hde
          have e2:=run_bytesToString (P:=P) w' ad' 0 c [] (run_loadCells_list w' ad' [] (fun j v hj=>by simp at hj))
          simp only [List.length_nil] at hAe
          simp [execOp,ho,hAe,e1,e2,ofInts]
        ·obtain ⟨rfl,hF,hsp⟩:=hA hne
         have had:ad=⟨ad.block,ad.off,none⟩:=by cases ad;simp_all
         have h1sz:sz2=1:=by
          cases hxs:xs with
          |nil=>exact absurd hxs hne
          |cons x r=>
           have a1:=hsz2 0 x (by rw [hxs];rfl)
           have a2:=hsz 0 x (by rw [hxs];rfl)
           omega
         subst h1sz
         refine ⟨_,_,h,.v,fin ad.block ad.off xs.length c l (by rw [hAe,←had]) (by rw [hl];simp) (fun i n hi=> ?_) hXb⟩
         have hxi:xs[i]? =some [.v (.int .u8 n)]:=by rw [hl,List.getElem?_map,hi];rfl
         have c1:=hcell i _ 0 _ hxi rfl
         have c2:=(hrep i _ 0 _ hxi rfl).v_inv
         rw [c2] at c1
         simpa using c1
   ·exact h.elim
  ·rename_i ob n sz lo hi h1
   have hXb:=hX (fun v hv=>by rw [h1] at hv;cases hv)
   rw [h1] at hx
   generalize hAe:a.eval A=y at hx
   split at h
   case h_2=>exact h.elim
   rename_i el' sz' xs hob
   obtain ⟨hsz1,h⟩:=h.elim
   rw [Bool.and_eq_true] at hsz1
   have e1:=Nat.eq_of_beq_eq_true hsz1.1
   have e2:=Nat.eq_of_beq_eq_true hsz1.2
   subst e1;subst e2
   obtain ⟨hn,h⟩:=h
   obtain ⟨l,hl,h⟩:=h.out
   obtain ⟨hrl,hsz,hown⟩:=H.heap.ob ob _ hob
   cases hx with
   |vwold _ hn'=>omega
   | @vw _ _ _ _ _ _ b m c off hlt hn' hv hle hhi h0 hoff=>
     rcases hown with ⟨hnil,hv'⟩|⟨b',c',vs,hv',hF,hb,hvs,hle2,hmx,hrep⟩
     ·subst hnil;simp at hn;omega
     ·rw [hv] at hv'
      injection hv' with e1 e2 e3
      injection e1 with e1
      injection e1 with e1 _ _
      subst e1;subst e3
      have hll:l.length=hi - lo:=by
       have:=congrArg List.length hl
       simp at this
       omega
      refine ⟨_,_,h,.v,fin _ off _ _ l hAe hll.symm (fun i k hi'=> ?_) hXb⟩
      have hil:i<l.length:=(List.getElem?_eq_some_iff.1 hi').1
      have hxi:((xs.take hi).drop lo)[i]? =some [.v (.int .u8 k)]:=by rw [hl,List.getElem?_map,hi'];rfl
      rw [List.getElem?_drop,List.getElem?_take_of_lt (by omega)] at hxi
      obtain ⟨y,hy,hyr⟩:=hrep (lo+i) _ 0 _ hxi rfl
      rw [hyr.v_inv] at hy
      rw [cell_of_row w _ _ vs el' _ hb,hoff (by omega)]
      simpa using hy
  ·exact h.elim
 ·exact h.elim
def bA (w:World) (F:Nat→Prop) (e:Env) (cs:List AV) (vs:Array Value):Prop:=vs.size=cs.length∧ ∀(j:Nat) s,cs[j]? =some s→ch w F e s (vs.getD j undef)
theorem one_value {s:AV} {x:Value} (h:s.one=true) (hx:ch w F e s x):x.oneCell'=true:=by
 cases hx<;>simp_all [AV.one,Value.oneCell']
theorem cells_one {x:Value} (h:x.oneCell'=true):x.cells= #[x]:=by
 cases x<;>simp_all [Value.oneCell',Value.cells]
theorem cellsB_sound {s:AV} {cs:List AV} (h:cellsB s=some cs) {x:Value} (hx:ch w F e s x):bA w F e cs x.cells:=by
 cases s<;>simp only [cellsB] at h
 case agg cs'=>
  injection h with h;subst h
  obtain ⟨vs,rfl,h1,h2⟩:=hx.agg_inv
  exact ⟨h1,h2⟩
 all_goals
  split at h
  ·rename_i h1
   injection h with h;subst h
   rw [cells_one (one_value h1 hx)]
   refine ⟨rfl,fun j s hj=> ?_⟩
   cases j with
   |zero=>simp at hj;subst hj;simpa using hx
   |succ j=>simp at hj
  ·cases h
theorem bA.set {cs:List AV} {vs:Array Value} (h:bA w F e cs vs) {s:AV} {x:Value} (hx:ch w F e s x) (k:Nat):bA w F e (cs.set k s) (vs.setIfInBounds k x):=by
 refine ⟨by simp [h.1],fun j t hj=> ?_⟩
 rw [List.getElem?_set] at hj
 rw [Array.getD_eq_getD_getElem?,Array.getElem?_setIfInBounds]
 split at hj
 ·rename_i hkj
  subst hkj
  split at hj
  ·injection hj with hj;subst hj
   rw [if_pos rfl,if_pos (by have:=h.1;omega)]
   exact hx
  ·cases hj
 ·rename_i hkj
  rw [if_neg hkj,←Array.getD_eq_getD_getElem?]
  exact h.2 j t hj
theorem putCells_sound (off:Nat): ∀(ys:List AV) (us:List Value) (j:Nat) (cs:List AV) (vs:Array Value),us.length=ys.length→(∀(i:Nat) s,ys[i]? =some s→ch w F e s (us.getD i undef))→bA w F e cs vs→
 bA w F e (putCells cs (off+j) ys) ((us.zipIdx j).foldl (fun c p=>c.setIfInBounds (off+p.2) p.1) vs):=by
 intro ys
 induction ys with
 |nil=>
  intro us j cs vs hl hr h
  cases us with
  |nil=>simpa [putCells] using h
  |cons u r=>simp at hl
 |cons y ys ih=>
  intro us j cs vs hl hr h
  cases us with
  |nil=>simp at hl
  |cons u r=>
   have h1:=hr 0 y (by simp)
   simp at h1
   have:=ih r (j+1) (cs.set (off+j) y) (vs.setIfInBounds (off+j) u) (by simpa using hl) (fun i s hi=>by
    have:=hr (i+1) s (by simpa using hi)
    simpa using this) (h.set h1 _)
   simpa [putCells,Nat.add_assoc] using this
theorem putCells_length (ys:List AV): ∀(cs:List AV) (off:Nat),(putCells cs off ys).length=cs.length:=by
 induction ys with
 |nil=>intro cs off;rfl
 |cons y ys ih=>intro cs off;simp [putCells,ih]
theorem fill_sound (hG:TyOk P G) (H:Here S a w F e) {fs:List (Nat×TypeId)} {place:Nat→Option (Nat×Nat)} (hp: ∀(i:Nat) off ft tf,fs[i]? =some (off,ft)→ty G ft=some tf→place i=some (off,tf.size)):
 ∀(parts:List (Nat×Operand)) (cs:List AV) (vs:Array Value) (r:List AV),bA w F e cs vs→buildV G S fs cs parts=some r→
  ∃us,Instr.fill place vs (parts.map fun p=>(p.1,a.eval p.2))=some us∧bA w F e r us:=by
 intro parts
 induction parts with
 |nil=>
  intro cs vs r h hb
  simp only [buildV] at hb
  injection hb with hb;subst hb
  exact ⟨vs,rfl,h⟩
 |cons p rest ih=>
  intro cs vs r h hb
  obtain ⟨i,x⟩:=p
  simp only [buildV] at hb
  split at hb
  ·cases hb
  rename_i off ft hf
  split at hb
  ·cases hb
  rename_i tf htf
  split at hb
  ·cases hb
  rename_i ys hys
  split at hb
  case h_2=>cases hb
  rename_i hle
  simp only [Bool.and_eq_true] at hle
  replace hle:=And.intro (Nat.eq_of_beq_eq_true hle.1) (Nat.le_of_ble_eq_true hle.2)
  have hc:=cellsB_sound hys (H.ev x)
  have hput:=putCells_sound (w:=w) (F:=F) (e:=e) off ys (a.eval x).cells.toList 0 cs vs (by rw [Array.length_toList];exact hc.1) (fun j s hj=>by
   have:=hc.2 j s hj
   have hlt:j<(a.eval x).cells.size:=by rw [hc.1];exact (List.getElem?_eq_some_iff.1 hj).1
   simpa [List.getD_eq_getElem?_getD,Array.getD_eq_getD_getElem?,Array.getElem?_eq_getElem hlt] using this) h
  obtain ⟨us,hu,hr⟩:=ih _ _ r hput hb
  refine ⟨us,?_,hr⟩
  simp only [List.map_cons,Instr.fill,hp i off ft tf hf htf]
  have q1:=hc.1
  have q2:=h.1
  rw [if_neg (by simp only [Bool.or_eq_true,decide_eq_true_eq,not_or];constructor<;>omega)]
  rw [←hu,←Array.foldl_toList,Array.toList_zipIdx]
theorem mapM_places (fs:List Field) (h: ∀f∈fs,∃i,P.info? f.type=some i):
 ∃places,fs.mapM (fun f=>(P.info? f.type).map fun i=>(f.offset,i.size))=some places∧ ∀(i:Nat) f,fs[i]? =some f→ ∃inf,P.info? f.type=some inf∧places[i]? =some (f.offset,inf.size):=by
 induction fs with
 |nil=>exact ⟨[],rfl,fun i f hf=>by simp at hf⟩
 |cons f fs ih=>
  obtain ⟨inf,hi⟩:=h f (List.mem_cons_self ..)
  obtain ⟨pl,hpl,hp⟩:=ih fun g hg=>h g (List.mem_cons_of_mem _ hg)
  refine ⟨(f.offset,inf.size)::pl,by simp [List.mapM_cons,hi,hpl],fun i g hg=> ?_⟩
  cases i with
  |zero=>simp at hg;subst hg;exact ⟨inf,hi,rfl⟩
  |succ i=>simpa using hp i g (by simpa using hg)
theorem build_sound (hG:TyOk P G) (H:Here S a w F e) {T:TypeId} {ti:TI} (ht:ty G T=some ti) {fs:List (Nat×TypeId)} (hu:ti.u= .struct fs) {parts:Array (Nat×Operand)} {cs:List AV} {q:AV→Prop} {o:Oper}
 (ho:o.op= .build T parts) (hb:buildV G S fs (ti.zero.map .v) parts.toList=some cs) (h:q (.agg cs)):Sound1 X P o a w F e q:=by
 have g:=hG.get ht
 obtain ⟨gs,hde,hfs,_⟩:=g.struct hu
 obtain ⟨it,hit,hsz,_,z,hz,hzc⟩:=g.info
 obtain ⟨places,hpl,hpp⟩:=mapM_places (P:=P) gs.toList (fun f hf=>by
  have:=g.kids fs hu (f.offset,f.type) (by rw [hfs];exact List.mem_map.2 ⟨f,hf,rfl⟩)
  exact this)
 have hz0:bA w F e (ti.zero.map .v) z.cells:=by
  rw [←hzc]
  refine ⟨by simp,fun j s hj=> ?_⟩
  rw [List.getElem?_map] at hj
  cases hv:z.cells.toList[j]? with
  |none=>rw [hv] at hj;cases hj
  |some y=>
   rw [hv] at hj
   simp at hj
   subst hj
   have hv':z.cells[j]? =some y:=by simpa using hv
   rw [Array.getD_eq_getD_getElem?,hv']
   exact .v
 obtain ⟨us,hus,hr⟩:=fill_sound hG H (place:=(places.toArray[·]?)) (fs:=fs) (fun i off ft tf hf htf=>by
  rw [hfs,List.getElem?_map] at hf
  cases hg:gs.toList[i]? with
  |none=>rw [hg] at hf;cases hf
  |some fd=>
   rw [hg] at hf
   simp at hf
   obtain ⟨inf,h1,h2⟩:=hpp i fd hg
   obtain ⟨i2,h3,h4,_⟩:=(hG.get htf).info
   rw [←hf.2,h1] at h3
   injection h3 with h3
   subst h3
   rw [List.getElem?_toArray,h2,hf.1,h4]) parts.toList _ _ cs hz0 hb
 refine ⟨_,.agg us,h,.agg hr.1 hr.2,fun w' _=> ?_⟩
 have hbl:P.built T (parts.map fun p=>(p.1,a.eval p.2)).toList=some us:=by
  unfold Program.built
  simp only [hit,hde,hz,hpl]
  rw [←hus]
  simp
 have:=run_build (P:=P) w' T (parts.map fun p=>(p.1,a.eval p.2)) us hbl
 simp [execOp,ho,this]
theorem buildA_sound (hG:TyOk P G) (H:Here S a w F e) {T:TypeId} {ti:TI} (ht:ty G T=some ti) {len:Nat} {el:TypeId} {te:TI} (hte:ty G el=some te) (hu:ti.u= .array len el) {parts:Array (Nat×Operand)} {cs:List AV} {q:AV→Prop} {o:Oper}
 (ho:o.op= .build T parts) (hb:buildV G S ((List.range len).map fun i=>(i*te.size,el)) (ti.zero.map .v) parts.toList=some cs) (h:q (.agg cs)):Sound1 X P o a w F e q:=by
 have g:=hG.get ht
 have hde:=g.arr hu
 obtain ⟨it,hit,hsz,_,z,hz,hzc⟩:=g.info
 obtain ⟨i2,h3,h4,_⟩:=(hG.get hte).info
 have hz0:bA w F e (ti.zero.map .v) z.cells:=by
  rw [←hzc]
  refine ⟨by simp,fun j s hj=> ?_⟩
  rw [List.getElem?_map] at hj
  cases hv:z.cells.toList[j]? with
  |none=>rw [hv] at hj;cases hj
  |some y=>
   rw [hv] at hj
   simp at hj
   subst hj
   have hv':z.cells[j]? =some y:=by simpa using hv
   rw [Array.getD_eq_getD_getElem?,hv']
   exact .v
 obtain ⟨us,hus,hr⟩:=fill_sound hG H (place:=fun i=>some (i*te.size,te.size)) (fs:=(List.range len).map fun i=>(i*te.size,el)) (fun i off ft tf hf htf=>by
  rw [List.getElem?_map] at hf
  cases hg:(List.range len)[i]? with
  |none=>rw [hg] at hf;cases hf
  |some k=>
   rw [hg] at hf
   have hk:=(List.getElem?_eq_some_iff.1 hg).2
   simp at hk
   simp at hf
   obtain ⟨rfl,rfl⟩:=hf
   rw [hte] at htf
   injection htf with htf
   rw [htf,hk]) parts.toList _ _ cs hz0 hb
 refine ⟨_,.agg us,h,.agg hr.1 hr.2,fun w' _=> ?_⟩
 have hbl:P.built T (parts.map fun p=>(p.1,a.eval p.2)).toList=some us:=by
  unfold Program.built
  simp only [hit,hde,hz,h3,h4]
  rw [←hus]
  simp
 have:=run_build (P:=P) w' T (parts.map fun p=>(p.1,a.eval p.2)) us hbl
 simp [execOp,ho,this]
theorem valOp_sound (hG:TyOk P G) (H:Here S a w F e) (o:Oper) (q:AV→Prop) (hok:XOk X F e S o.op) (h:valOp G S o.op q):Sound1 X P o a w F e q:=by
 cases ho:o.op<;>rw [ho] at h<;>simp only [valOp] at h
 case move x=>exact ⟨_,_,h,H.ev x,fun w' _=>by simp [execOp,ho]⟩
 case assign x=>exact ⟨_,_,h,H.ev x,fun w' _=>by simp [execOp,ho]⟩
 case nilCheck x=>
  have hx:=H.ev x
  unfold nilV at h
  split at h
  ·rename_i ob off h1
   rw [h1] at hx
   obtain ⟨hl,ex⟩:=hx.ptr_inv
   exact ⟨_,_,h,hx,fun w' _=>by simp [execOp,ho,ex]⟩
  ·rename_i cs h1
   rw [h1] at hx
   obtain ⟨ad,vals,ex,hF,hsp,hcell,hrep⟩:=hx.eptr_inv
   exact ⟨_,_,h,hx,fun w' _=>by simp [execOp,ho,ex]⟩
  ·rename_i f first caps h1
   rw [h1] at hx
   cases hv:a.eval x<;>rw [hv] at hx<;>(try (cases hx;done))
   case func g fs cs=>
    have:g= .func f:=by cases hx;rfl
    subst this
    exact ⟨_,_,h,hx,fun w' _=>by simp [execOp,ho,hv]⟩
  ·exact h.elim
 case pick c x y=>exact pickV_sound H ho h
 case load T x=>
  split at h
  ·rename_i ti ht;exact loadV_sound hG H ht ho hok h
  ·exact h.elim
 case binOp op T x y yT=>exact binV_sound hG H ho h
 case unOp op T x=>exact unV_sound H ho h
 case convert s d x=>exact convV_sound hG H ho hok h
 case fieldAddr T x f=>exact fieldAddrV_sound hG H ho h
 case field T x f=>exact fieldV_sound hG H ho h
 case indexAddr T x i=>exact indexAddrV_sound hG H ho h
 case index T x i=>exact indexV_sound hG H ho h
 case slice T x lo hi mx=>
  cases mx with
  |none=>exact sliceV_sound hG H ho h
  |some m=>exact slice3V_sound hG H ho h
 case extract x i=>
  have hx:=H.ev x
  split at h
  case h_2=>exact h.elim
  rename_i vs h1
  split at h
  case h_2=>exact h.elim
  rename_i r hr
  rw [h1] at hx
  obtain ⟨us,ex,hsz,hrep⟩:=hx.tup_inv
  refine ⟨r,_,h,hrep i r hr,fun w' _=> ?_⟩
  have:=getElem?_of_getD (vs:=us) (j:=i) (by rw [hsz];exact (List.getElem?_eq_some_iff.1 hr).1)
  simp only [execOp,ho,ex,Instr.extract]
  rw [this];rfl
 case build T parts=>
  split at h
  case h_2=>exact h.elim
  rename_i ti ht
  split at h
  ·rename_i fs hu
   split at h
   case h_2=>exact h.elim
   rename_i cs hb
   exact build_sound hG H ht hu ho hb h
  ·rename_i len el hu
   split at h
   case h_2=>exact h.elim
   rename_i te hte
   split at h
   case h_2=>exact h.elim
   rename_i cs hb
   exact buildA_sound hG H ht hte hu ho hb h
  ·exact h.elim
 case makeFunc f fs cs=>
  have hr: ∀(xs:Array Operand) (j:Nat) s,(xs.toList.map S.ev)[j]? =some s→ch w F e s ((xs.map a.eval).getD j undef):=by
   intro xs j s hj
   rw [List.getElem?_map] at hj
   cases hx:xs.toList[j]? with
   |none=>rw [hx] at hj;cases hj
   |some x=>
    rw [hx] at hj
    simp at hj
    subst hj
    have hx':xs[j]? =some x:=by simpa using hx
    rw [Array.getD_eq_getD_getElem?,Array.getElem?_map,hx']
    exact H.ev x
  exact ⟨_,.func f (fs.map a.eval) (cs.map a.eval),h,.fn (by simp) (by simp) (hr fs) (hr cs),fun w' _=>by simp [execOp,ho,Instr.makeFunc]⟩
 case makeInterface T x=>
  split at h
  case h_2=>exact h.elim
  rename_i ti ht
  obtain ⟨hc,h⟩:=h.elim
  exact ⟨_,.iface T (a.eval x),h,.ifc (H.ev x),fun w' _=>by simp [execOp,ho,run_makeInterface w' T (a.eval x) ((hG.get ht).conc hc)]⟩
 case call c=>
  obtain ⟨callee,args,ts⟩:=c
  obtain ⟨args⟩:=args
  obtain ⟨ts⟩:=ts
  unfold builtinV at h
  split at h
  case h_2=>exact h.elim
  rename_i b hcal
  simp only at hcal
  subst hcal
  split at h
  ·rename_i x T h1 h2
   simp only at h1 h2
   subst h1;subst h2
   exact lenV_sound hG H ho h
  ·rename_i x y h1
   simp only at h1
   subst h1
   exact minmaxV_sound (mx:=false) H ho h
  ·rename_i x y h1
   simp only at h1
   subst h1
   exact minmaxV_sound (mx:=true) H ho h
  ·exact h.elim
end
end Go.Ab
namespace Go.Ab
set_option linter.unusedVariables false
set_option linter.unusedSimpArgs false
structure bV (w w':World) (own:Nat→Prop):Prop where
 os:w'.os=w.os
 tape:w'.tape=w.tape
 output:w'.output=w.output
 size:w.heap.size≤w'.heap.size
 block: ∀b,b<w.heap.size→ ¬own b→w'.heap[b]? =w.heap[b]?
section
variable {C:Ctx} {H H':List Ob} {w w':World} {F:Nat→Prop} {e e':Env}
theorem ap.lt (h:HRep w F e H) {o b:Nat} (ho:ap e H o b):b<w.heap.size:=by
 unfold ap at ho
 split at ho
 ·rename_i T cs hob
  obtain ⟨_,vs,hb,_⟩:=h.ob o _ hob
  subst ho
  exact (Array.getElem?_eq_some_iff.1 hb).1
 ·rename_i el sz xs hob
  obtain ⟨n,c,hv⟩:=ho
  obtain ⟨_,_,hown⟩:=h.ob o _ hob
  rcases hown with ⟨_,hv'⟩|⟨b',c',vs,hv',_,hb,_⟩
  ·rw [hv] at hv';cases hv'
  ·rw [hv] at hv'
   injection hv' with hv' _ _
   injection hv' with hv'
   injection hv' with hv' _ _
   subst hv'
   exact (Array.getElem?_eq_some_iff.1 hb).1
 ·rename_i R hob
  obtain ⟨_,x,hb,_⟩:=h.ob o _ hob
  subst ho
  exact (Array.getElem?_eq_some_iff.1 hb).1
 ·exact ho.elim
theorem ap.notF (h:HRep w F e H) {o b:Nat} (ho:ap e H o b): ¬F b:=by
 unfold ap at ho
 split at ho
 ·rename_i T cs hob
  obtain ⟨hF,_⟩:=h.ob o _ hob
  subst ho
  exact hF
 ·rename_i el sz xs hob
  obtain ⟨n,c,hv⟩:=ho
  obtain ⟨_,_,hown⟩:=h.ob o _ hob
  rcases hown with ⟨_,hv'⟩|⟨b',c',vs,hv',hF,hb,_⟩
  ·rw [hv] at hv';cases hv'
  ·rw [hv] at hv'
   injection hv' with hv' _ _
   injection hv' with hv'
   injection hv' with hv' _ _
   subst hv'
   exact hF
 ·rename_i R hob
  obtain ⟨hF,_⟩:=h.ob o _ hob
  subst ho
  exact hF
 ·exact ho.elim
theorem ObRep.keep {o:Nat} {ob:Ob} (hob:H[o]? =some ob) (hlt:o<e.len) (h:ObRep w F e o ob) {F':Nat→Prop} (L:bS w F w' F') (hF': ∀b,F' b→F b∨ ¬ap e H o b) (E:aH e e') (hrl:e'.rlen o=e.rlen o) (hrv:e'.rowv o=e.rowv o)
 (hb: ∀b,ap e H o b→w'.heap[b]? =w.heap[b]?):ObRep w' F' e' o ob:=by
 cases ob with
 |var T cs=>
  obtain ⟨hF,vs,h1,h2,h3⟩:=h
  have hown:ap e H o (e.blk o):=by unfold ap;rw [hob]
  refine ⟨?_,vs,?_,h2,fun j s hj=>(h3 j s hj).mono L E⟩
  ·rw [E.blk o hlt]
   intro hF2
   rcases hF' _ hF2 with h|h
   ·exact hF h
   ·exact h hown
  ·rw [E.blk o hlt,hb _ hown];exact h1
 |row el sz xs=>
  obtain ⟨h1,h2,h3⟩:=h
  refine ⟨by rw [hrl];exact h1,h2,?_⟩
  rw [hrv]
  rcases h3 with h3|⟨b,c,vs,hv,hF,hb',hsz,hle,hmx,hrep⟩
  ·exact .inl h3
  ·have hown:ap e H o b:=by unfold ap;rw [hob];exact ⟨_,_,hv⟩
   refine .inr ⟨b,c,vs,hv,fun hF2=> ?_,by rw [hb _ hown];exact hb',hsz,hle,hmx,fun i cs j s hi hj=> ?_⟩
   ·rcases hF' _ hF2 with h|h
    ·exact hF h
    ·exact h hown
   ·obtain ⟨y,hy,hr⟩:=hrep i cs j s hi hj
    exact ⟨y,hy,hr.mono L (aH.refl _)⟩
 |frz sz xs=>
  obtain ⟨h1,h2,h3⟩:=h
  exact ⟨by rw [hrl];exact h1,h2,by rw [hrv];exact h3.mono L (aH.refl _)⟩
 |ext R=>
  obtain ⟨hF,x,h1,h2⟩:=h
  have hown:ap e H o (e.blk o):=by unfold ap;rw [hob]
  refine ⟨?_,x,?_,h2⟩
  ·rw [E.blk o hlt]
   intro hF2
   rcases hF' _ hF2 with h|h
   ·exact hF h
   ·exact h hown
  ·rw [E.blk o hlt,hb _ hown];exact h1
 |gone=>trivial
theorem Mem.change (M:Mem C H w F e) (o:Nat) (ob':Ob) (hlen:e'.len=H'.length) (hle:H.length≤H'.length) (hne: ∀o',o'≠o→H'[o']? =H[o']?) (ho:H'[o]? =some ob')
 (E:aH e e') (henv: ∀o',o'≠o→o'<e.len→e'.rlen o'=e.rlen o'∧e'.rowv o'=e.rowv o')
 (T:bV w w' (ap e H o)) (hob:ObRep w' F e' o ob') (hown: ∀b,ap e' H' o b→ap e H o b∨w.heap.size≤b):Mem C H' w' F e':=by
 have L:bS w F w' F:=⟨fun _ h=>h,fun b hb=>T.block b (M.bound b hb) (fun h=>h.notF M.heap hb)⟩
 have hold: ∀o' b,o'≠o→(ap e' H' o' b↔ap e H o' b):=by
  intro o' b hn
  unfold ap
  rw [hne o' hn]
  cases hc:H[o']? with
  |none=>simp
  |some x=>
   have hlt:o'<e.len:=by rw [M.heap.len];exact (List.getElem?_eq_some_iff.1 hc).1
   cases x with
   |var T cs=>simp [E.blk o' hlt]
   |row el sz xs=>simp [(henv o' hn hlt).2]
   |frz sz xs=>simp
   |ext R=>simp [E.blk o' hlt]
   |gone=>simp
 refine ⟨⟨hlen,fun o' x hx=> ?_,fun o1 o2 b h1 h2=> ?_⟩,⟨T.os.trans M.mod.os,T.tape.trans M.mod.tape,T.output.trans M.mod.output,Nat.le_trans M.mod.size T.size,fun b hb hn=> ?_⟩,fun o' b hb=> ?_,M.sub,fun b hb=>Nat.lt_of_lt_of_le (M.bound b hb) T.size,M.fresh,M.env.trans E,M.g⟩
 ·by_cases hn:o'=o
  ·subst hn;rw [ho] at hx;injection hx with hx;subst hx;exact hob
  ·rw [hne o' hn] at hx
   have hlt:o'<e.len:=by rw [M.heap.len];exact (List.getElem?_eq_some_iff.1 hx).1
   refine ObRep.keep hx hlt (M.heap.ob o' x hx) L (fun b hb=>.inl hb) E (henv o' hn hlt).1 (henv o' hn hlt).2 (fun b hb=>T.block b (hb.lt M.heap) (fun h=>hn (M.heap.one _ _ _ hb h)))
 ·by_cases n1:o1=o<;>by_cases n2:o2=o
  ·rw [n1,n2]
  ·subst n1
   have k2:=(hold o2 b n2).1 h2
   rcases hown b h1 with k|k
   ·exact M.heap.one _ _ _ k k2
   ·have:=k2.lt M.heap;omega
  ·subst n2
   have k1:=(hold o1 b n1).1 h1
   rcases hown b h2 with k|k
   ·exact M.heap.one _ _ _ k1 k
   ·have:=k1.lt M.heap;omega
  ·exact M.heap.one _ _ _ ((hold o1 b n1).1 h1) ((hold o2 b n2).1 h2)
 ·rw [T.block b (Nat.lt_of_lt_of_le hb M.mod.size) (fun h=> ?_)]
  ·exact M.mod.block b hb hn
  ·rcases M.ours _ _ h with k|k
   ·omega
   ·exact hn k
 ·by_cases hn:o'=o
  ·subst hn
   rcases hown b hb with k|k
   ·exact M.ours _ _ k
   ·exact .inl (Nat.le_trans M.mod.size k)
  ·exact M.ours _ _ ((hold o' b hn).1 hb)
theorem Mem.later (M:Mem C H w F e) {o:Nat} (T:bV w w' (ap e H o)):bS w F w' F:=⟨fun _ h=>h,fun b hb=>T.block b (M.bound b hb) (fun h=>h.notF M.heap hb)⟩
def upd {α:Type} (f:Nat→α) (d:Nat) (r:α):Nat→α:=fun t=>bif Nat.beq t d then r else f t
theorem ba {α:Type} (f:Nat→α) (d:Nat) (r:α):upd f d r d=r:=by simp [upd]
theorem cj {α:Type} (f:Nat→α) (d:Nat) (r:α) {t:Nat} (h:t≠d):upd f d r t=f t:=by
 have:Nat.beq t d=false:=by cases hb:Nat.beq t d with|false=>rfl|true=>exact absurd (Nat.eq_of_beq_eq_true hb) h
 simp [upd,this]
def Env.pushVar (e:Env) (b:Nat):Env:= {e with len:=e.len+1,blk:=upd e.blk e.len b}
def Env.pushRow (e:Env) (n:Nat) (x:Value):Env:= {e with len:=e.len+1,rlen:=upd e.rlen e.len n,rowv:=upd e.rowv e.len x}
theorem aH.pushVar (e:Env) (b:Nat):aH e (e.pushVar b):=⟨by simp [Env.pushVar],fun o ho=>cj _ _ _ (by omega),fun o ho=>.inr ⟨rfl,rfl⟩⟩
theorem aH.pushRow (e:Env) (n:Nat) (x:Value):aH e (e.pushRow n x):=⟨by simp [Env.pushRow],fun o ho=>rfl,fun o ho=>.inr ⟨cj _ _ _ (by omega),cj _ _ _ (by omega)⟩⟩
theorem cl (w:World) (o:Obj) (own:Nat→Prop):bV w (w.alloc o) own:=
 ⟨rfl,rfl,rfl,by simp,fun b hb _=>RowKit.Below.heap_alloc w o b hb⟩
theorem getElem?_push_old {o':Nat} (x:Ob) (hn:o'≠H.length):(H++[x])[o']? =H[o']? :=by
 rcases Nat.lt_or_ge o' H.length with h|h
 ·rw [List.getElem?_append_left h]
 ·rw [List.getElem?_eq_none (by simp;omega),List.getElem?_eq_none h]
theorem Mem.pushVar (M:Mem C H w F e) {T:TypeId} {cs:List AV} {vs:Array Value} (hr:bA w F e cs vs):
 Mem C (H++[.var T cs]) (w.alloc (.cells vs T)) F (e.pushVar w.heap.size):=by
 have hlen:=M.heap.len
 refine M.change (o:=H.length) (.var T cs) (by simp [Env.pushVar,hlen]) (by simp) (fun o' hn=>getElem?_push_old _ hn) (by simp) (aH.pushVar e _) (fun o' _ _=>⟨rfl,rfl⟩) (cl w _ _) ?_ ?_
 ·have hb:(e.pushVar w.heap.size).blk H.length=w.heap.size:=by simp only [Env.pushVar];rw [←hlen];exact ba _ _ _
  refine ⟨?_,vs,?_,hr.1,fun j s hj=>(hr.2 j s hj).mono (M.later (cl w _ (ap e H H.length))) (aH.pushVar e _)⟩
  ·rw [hb];intro hF;exact absurd (M.bound _ hF) (by omega)
  ·rw [hb];exact heap_alloc_new w _
 ·intro b hb
  unfold ap at hb
  simp at hb
  have:(e.pushVar w.heap.size).blk H.length=w.heap.size:=by simp only [Env.pushVar];rw [←hlen];exact ba _ _ _
  rw [this] at hb
  exact .inr (by omega)
end
end Go.Ab
namespace Go.Ab
set_option linter.unusedVariables false
set_option linter.unusedSimpArgs false
section
variable {P:Program} {C:Ctx} {H H':List Ob} {w w':World} {F:Nat→Prop} {e e':Env}
theorem bV.refl (w:World) (own:Nat→Prop):bV w w own:=⟨rfl,rfl,rfl,Nat.le_refl _,fun _ _ _=>rfl⟩
theorem bV.trans {a b c:World} {own:Nat→Prop} (h:bV a b own) (k:bV b c own):bV a c own:=
 ⟨k.os.trans h.os,k.tape.trans h.tape,k.output.trans h.output,Nat.le_trans h.size k.size,fun i hi hn=>(k.block i (Nat.lt_of_lt_of_le hi h.size) hn).trans (h.block i hi hn)⟩
theorem bV.mono {a b:World} {own own':Nat→Prop} (h:bV a b own) (hs: ∀i,own i→own' i):bV a b own':=
 ⟨h.os,h.tape,h.output,h.size,fun i hi hn=>h.block i hi (fun k=>hn (hs i k))⟩
theorem run_storeCells (b off:Nat) (T:TypeId): ∀(us:List Value) (i:Nat) (vs:Array Value) (w:World),w.heap[b]? =some (.cells vs T (0,0))→off+i+us.length≤vs.size→(∀u∈us,u.oneCell'=true)→
 ∃w',(storeCells ⟨b,off,none⟩ us i).run P w= .ok () w'∧bV w w' (· =b)∧w'.heap.size=w.heap.size∧
  w'.heap[b]? =some (.cells ((us.zipIdx i).foldl (fun c p=>c.setIfInBounds (off+p.2) p.1) vs) T (0,0)):=by
 intro us
 induction us with
 |nil=>intro i vs w hb _ _;exact ⟨w,rfl,bV.refl _ _,rfl,by simpa using hb⟩
 |cons u r ih=>
  intro i vs w hb hle h1
  have hadd:(⟨b,off,none⟩:Addr).add i=⟨b,off+i,none⟩:=cy rfl i
  have hlt:off+i<vs.size:=by simp at hle;omega
  have hcell:w.cell? ⟨b,off+i,none⟩=some (vs[off+i]'hlt):=by
   rw [cell_of_row w b (off+i) vs T _ hb,Array.getElem?_eq_getElem hlt]
  have hfz:=frozen_of_row w b (off+i) vs T hb
  have hs:=heap_setCell_same w b (off+i) vs T u hb
  obtain ⟨w',h2,h3,h4,h5⟩:=ih (i+1) (vs.setIfInBounds (off+i) u) _ hs (by simp at hle⊢;omega) (fun x hx=>h1 x (List.mem_cons_of_mem _ hx))
  have ht:bV w (w.setCell ⟨b,off+i,none⟩ u) (· =b):=⟨rfl,rfl,rfl,by simp,fun k hk hn=>heap_setCell_other w ⟨b,off+i,none⟩ k u hn⟩
  refine ⟨w',?_,ht.trans h3,by rw [h4];simp,by simpa using h5⟩
  unfold storeCells
  rw [Sem.run_bind,hadd,run_store P w _ u .plain (h1 u (List.mem_cons_self ..)),hcell]
  simp only [hfz,Bool.false_eq_true,if_false,Result.andThen_ok]
  exact h2
theorem ones_values {cs:List AV} (h:ones cs=true) {vs:Array Value} (hr:bA w F e cs vs): ∀u∈vs.toList,u.oneCell'=true:=by
 intro u hu
 obtain ⟨j,hj,hju⟩:=List.getElem_of_mem hu
 have hlt:j<cs.length:=by rw [←hr.1];simpa using hj
 have h1:=List.all_eq_true.1 h cs[j] (List.getElem_mem _)
 have:=hr.2 j cs[j] (List.getElem?_eq_getElem hlt)
 have hv:vs.getD j undef=u:=by
  rw [Array.getD_eq_getD_getElem?]
  rw [←hju]
  simp at hj⊢
  simp [hj]
 rw [hv] at this
 exact one_value h1 this
theorem Mem.store (M:Mem C H w F e) {o off:Nat} {T:TypeId} {cs ys:List AV} {us:Array Value} (ho:H[o]? =some (.var T cs)) (hr:bA w F e ys us) (h1:ones ys=true) (hle:off+ys.length≤cs.length):
 ∃w',(storeCells ⟨e.blk o,off,none⟩ us.toList).run P w= .ok () w'∧Agree (fun _=>False) w w'=Agree (fun _=>False) w w'∧w'.heap.size=w.heap.size∧Mem C (H.set o (.var T (putCells cs off ys))) w' F e:=by
 obtain ⟨vs,hb,hsz,hF,hrep⟩:=M.heap.var ho
 have hlt:o<H.length:=(List.getElem?_eq_some_iff.1 ho).1
 obtain ⟨w',h2,h3,h4,h5⟩:=run_storeCells (P:=P) (e.blk o) off T us.toList 0 vs w hb (by have:=hr.1;simp;omega) (ones_values h1 hr)
 have hown: ∀b,b=e.blk o→ap e H o b:=fun b hbb=>by unfold ap;rw [ho];exact hbb.symm
 refine ⟨w',h2,rfl,h4,M.change (o:=o) (.var T (putCells cs off ys)) (by simp [M.heap.len]) (by simp) (fun o' hn=>by rw [List.getElem?_set_ne (Ne.symm hn)]) (by simp [hlt]) (aH.refl e) (fun o' _ _=>⟨rfl,rfl⟩) (h3.mono hown) ?_ ?_⟩
 ·refine ⟨hF,_,h5,?_⟩
  have L:bS w F w' F:=M.later (h3.mono hown)
  have h6:bA w' F e cs vs:=⟨hsz,fun j s hj=>(hrep j s hj).mono L (aH.refl e)⟩
  have:=putCells_sound (w:=w') (F:=F) (e:=e) off ys us.toList 0 cs vs (by rw [Array.length_toList];exact hr.1) (fun j s hj=>by
   have:=(hr.2 j s hj).mono L (aH.refl e)
   have hlt:j<us.size:=by rw [hr.1];exact (List.getElem?_eq_some_iff.1 hj).1
   simpa [List.getD_eq_getElem?_getD,Array.getD_eq_getD_getElem?,Array.getElem?_eq_getElem hlt] using this) h6
  exact this
 ·intro b hb'
  unfold ap at hb'
  simp [hlt] at hb'
  exact .inl (hown b hb'.symm)
def Flat (w:World) (F:Nat→Prop) (sz:Nat) (xs:List (List AV)) (vs:List Value):Prop:=
 vs.length=xs.length*sz∧(∀(i:Nat) cs,xs[i]? =some cs→cs.length=sz∧ones cs=true)∧
 ∀(i:Nat) (cs:List AV) (j:Nat) s,xs[i]? =some cs→cs[j]? =some s→ ∃y,vs[i*sz+j]? =some y∧ch w F Env.nil s y
theorem idx_lt {i j n sz:Nat} (hi:i<n) (hj:j<sz):i*sz+j<n*sz:=by
 have:i*sz+sz≤n*sz:=by rw [←Nat.succ_mul];exact Nat.mul_le_mul_right _ hi
 omega
theorem Flat.append {sz:Nat} {xs ys:List (List AV)} {vs us:List Value} (h:Flat w F sz xs vs) (k:Flat w F sz ys us):Flat w F sz (xs++ys) (vs++us):=by
 refine ⟨by rw [List.length_append,List.length_append,h.1,k.1,Nat.add_mul],fun i cs hi=> ?_,fun i cs j s hi hj=> ?_⟩
 ·rcases Nat.lt_or_ge i xs.length with hlt|hge
  ·rw [List.getElem?_append_left hlt] at hi;exact h.2.1 i cs hi
  ·rw [List.getElem?_append_right hge] at hi;exact k.2.1 _ cs hi
 ·rcases Nat.lt_or_ge i xs.length with hlt|hge
  ·rw [List.getElem?_append_left hlt] at hi
   obtain ⟨y,hy,hr⟩:=h.2.2 i cs j s hi hj
   refine ⟨y,?_,hr⟩
   rw [List.getElem?_append_left (by rw [h.1];exact idx_lt hlt (by rw [←(h.2.1 i cs hi).1];exact (List.getElem?_eq_some_iff.1 hj).1))]
   exact hy
  ·rw [List.getElem?_append_right hge] at hi
   obtain ⟨y,hy,hr⟩:=k.2.2 _ cs j s hi hj
   refine ⟨y,?_,hr⟩
   have he:i*sz+j=vs.length+((i - xs.length)*sz+j):=by
    rw [h.1,←Nat.add_assoc,←Nat.add_mul];congr 2;omega
   rw [he,List.getElem?_append_right (by omega)]
   simpa using hy
theorem Flat.mono {sz:Nat} {xs:List (List AV)} {vs:List Value} (h:Flat w F sz xs vs) {F':Nat→Prop} (L:bS w F w' F'):Flat w' F' sz xs vs:=
 ⟨h.1,h.2.1,fun i cs j s hi hj=>let ⟨y,hy,hr⟩:=h.2.2 i cs j s hi hj;⟨y,hy,hr.mono L (aH.refl _)⟩⟩
theorem cL.owns {el sz:Nat} {xs:List (List AV)} {x:Value} (h:cL w F el sz xs x): ∃vs,Flat w F sz xs vs∧w.ownsRow 0 el sz x xs.length vs:=by
 obtain ⟨hsz,h⟩:=h
 rcases h with ⟨rfl,rfl⟩|⟨b,c,vs,rfl,hF,hb,hvs,hle,hmx,hrep⟩
 ·exact ⟨[],⟨by simp,by simp,by simp⟩,by simpa using World.ownsRow_nil w 0 el sz⟩
 ·have hlen:xs.length*sz≤vs.size:=by rw [hvs];exact Nat.mul_le_mul_right _ hle
  refine ⟨vs.toList.take (xs.length*sz),⟨by simp;omega,hsz,fun i cs j s hi hj=> ?_⟩,⟨by simp;omega,.inr ⟨b,c,vs,rfl,Nat.zero_le _,hb,hle,hmx,hvs,rfl⟩⟩⟩
  obtain ⟨y,hy,hr⟩:=hrep i cs j s hi hj
  refine ⟨y,?_,hr⟩
  rw [List.getElem?_take_of_lt (idx_lt (List.getElem?_eq_some_iff.1 hi).1 (by rw [←(hsz i cs hi).1];exact (List.getElem?_eq_some_iff.1 hj).1))]
  simpa using hy
theorem cL.of_owns {el sz:Nat} {xs:List (List AV)} {x:Value} {vs:List Value} (hf:Flat w F sz xs vs) (h:w.ownsRow 0 el sz x xs.length vs) (hF: ∀b,x.ownBlock=some b→ ¬F b):cL w F el sz xs x:=by
 refine ⟨hf.2.1,?_⟩
 obtain ⟨h1,h2⟩:=h
 rcases h2 with ⟨rfl,hn⟩|⟨g,cap,cur,rfl,_,hb,hle,hmx,hcs,htk⟩
 ·exact .inl ⟨List.length_eq_zero_iff.1 hn,rfl⟩
 ·refine .inr ⟨g,cap,cur,rfl,hF g rfl,hb,hcs,hle,hmx,fun i cs j s hi hj=> ?_⟩
  obtain ⟨y,hy,hr⟩:=hf.2.2 i cs j s hi hj
  refine ⟨y,?_,hr⟩
  rw [←htk,List.getElem?_take_of_lt (idx_lt (List.getElem?_eq_some_iff.1 hi).1 (by rw [←(hf.2.1 i cs hi).1];exact (List.getElem?_eq_some_iff.1 hj).1))] at hy
  simpa using hy
end
end Go.Ab
namespace Go.Ab
set_option linter.unusedVariables false
set_option linter.unusedSimpArgs false
section
variable {P:Program} {C:Ctx} {H H':List Ob} {w w':World} {F:Nat→Prop} {e e':Env}
theorem Mem.pushRow (M:Mem C H w F e) {el sz:Nat} {xs:List (List AV)} {x:Value} (T:bV w w' (fun _=>False)) (hr:cL w' F el sz xs x) (hb: ∀b,x.ownBlock=some b→w.heap.size≤b):
 Mem C (H++[.row el sz xs]) w' F (e.pushRow xs.length x):=by
 have hlen:=M.heap.len
 have h1:(e.pushRow xs.length x).rlen H.length=xs.length:=by simp only [Env.pushRow];rw [←hlen];exact ba _ _ _
 have h2:(e.pushRow xs.length x).rowv H.length=x:=by simp only [Env.pushRow];rw [←hlen];exact ba _ _ _
 refine M.change (o:=H.length) (.row el sz xs) (by simp [Env.pushRow,hlen]) (by simp) (fun o' hn=>getElem?_push_old _ hn) (by simp) (aH.pushRow e _ _) (fun o' hn ho=> ?_) (T.mono fun _ h=>h.elim) ?_ ?_
 ·constructor<;>exact cj _ _ _ (by omega)
 ·exact ⟨h1,by rw [h2];exact hr⟩
 ·intro b hb'
  unfold ap at hb'
  simp at hb'
  obtain ⟨n,c,hv⟩:=hb'
  rw [h2] at hv
  exact .inr (hb b (by rw [hv];rfl))
def Env.setRow (e:Env) (o n:Nat) (x:Value):Env:= {e with rlen:=upd e.rlen o n,rowv:=upd e.rowv o x}
theorem Mem.growRow (M:Mem C H w F e) {o el sz:Nat} {xs ys:List (List AV)} {x:Value} (ho:H[o]? =some (.row el sz xs)) (T:bV w w' (ap e H o)) (hr:cL w' F el sz ys x)
 (hb: ∀b,x.ownBlock=some b→ap e H o b∨w.heap.size≤b) (hl:xs.length<ys.length∨(xs.length=ys.length∧x=e.rowv o)):
 Mem C (H.set o (.row el sz ys)) w' F (e.setRow o ys.length x):=by
 have hlt:o<H.length:=(List.getElem?_eq_some_iff.1 ho).1
 obtain ⟨hrl,hown⟩:=M.heap.ob o _ ho
 have h1:(e.setRow o ys.length x).rlen o=ys.length:=ba _ _ _
 have h2:(e.setRow o ys.length x).rowv o=x:=ba _ _ _
 refine M.change (o:=o) (.row el sz ys) (by simp [Env.setRow,M.heap.len]) (by simp) (fun o' hn=>by rw [List.getElem?_set_ne (Ne.symm hn)]) (by simp [hlt]) ⟨Nat.le_refl _,fun _ _=>rfl,fun o' ho'=> ?_⟩ (fun o' hn ho=> ?_) T ?_ ?_
 ·by_cases hn:o'=o
  ·subst hn
   rw [h1,h2,hrl]
   rcases hl with hl|⟨hl,hx⟩
   ·exact .inl hl
   ·exact .inr ⟨hl.symm,hx⟩
  ·exact .inr ⟨cj _ _ _ hn,cj _ _ _ hn⟩
 ·exact ⟨cj _ _ _ hn,cj _ _ _ hn⟩
 ·exact ⟨h1,by rw [h2];exact hr⟩
 ·intro b hb'
  unfold ap at hb'
  simp [hlt] at hb'
  obtain ⟨n,c,hv⟩:=hb'
  rw [h2] at hv
  exact hb b (by rw [hv];rfl)
structure Src (w:World) (F:Nat→Prop) (sz:Nat) (ys:List (List AV)) (x:Value):Prop where
 mk::(out: ∃A c news,x= .slice A ys.length c∧Flat w F sz ys news∧(∀u∈news,u.oneCell'=true)∧(ys≠[]→ ∃a,A=some a∧ ∀(j:Nat) u,news[j]? =some u→w.cell? (a.add j)=some u))
theorem flat_ones {sz:Nat} {xs:List (List AV)} {vs:List Value} (h:Flat w F sz xs vs): ∀u∈vs,u.oneCell'=true:=by
 intro u hu
 obtain ⟨q,hq,hqu⟩:=List.getElem_of_mem hu
 rw [h.1] at hq
 have hsz:0<sz:=by
  rcases Nat.eq_zero_or_pos sz with h0|h0
  ·subst h0;simp at hq
  ·exact h0
 have hi:q / sz<xs.length:=by rw [Nat.div_lt_iff_lt_mul hsz];exact hq
 have hj:q%sz<sz:=Nat.mod_lt _ hsz
 obtain ⟨hl,h1⟩:=h.2.1 _ _ (List.getElem?_eq_getElem hi)
 obtain ⟨y,hy,hr⟩:=h.2.2 (q / sz) _ (q%sz) _ (List.getElem?_eq_getElem hi) (List.getElem?_eq_getElem (by rw [hl];exact hj))
 have e1:q / sz*sz+q%sz=q:=Nat.div_add_mod' q sz
 rw [e1] at hy
 have:vs[q]? =some u:=by rw [List.getElem?_eq_getElem (by rw [h.1];exact hq),hqu]
 rw [this] at hy
 injection hy with hy
 subst hy
 exact one_value (List.all_eq_true.1 h1 _ (List.getElem_mem _)) hr
theorem src_sl {sz:Nat} {ys:List (List AV)} {x:Value} (h:ch w F e (.sl ys) x) (hall: ∀cs∈ys,cs.length=sz):Src w F sz ys x:=by
 cases h with
 | @sl _ _ A c sz' a vals hc hA hsz hone hcell hrep=>
   by_cases hne:ys=[]
   ·subst hne
    exact ⟨⟨A,c,[],rfl,⟨by simp,by simp,by simp⟩,by simp,fun h=>absurd rfl h⟩⟩
   ·obtain ⟨hA1,hA2,hA3⟩:=hA hne
    obtain ⟨y0,r0,rfl⟩:=List.exists_cons_of_ne_nil hne
    have hs':sz'=sz:=by rw [←hsz 0 y0 rfl];exact hall y0 (List.mem_cons_self ..)
    subst hs'
    rcases Nat.eq_zero_or_pos sz' with h0|hpos
    ·subst h0
     exact ⟨⟨A,c,[],rfl,⟨by simp,fun i cs hi=>⟨hsz i cs hi,hone i cs hi⟩,fun i cs j s hi hj=>by have:=hsz i cs hi;have:=(List.getElem?_eq_some_iff.1 hj).1;omega⟩,by simp,fun _=>⟨a,hA1,fun j u hu=>by simp at hu⟩⟩⟩
    ·generalize hys:y0::r0=ys at*
     have hget: ∀(q:Nat),q<ys.length*sz'→((List.range (ys.length*sz')).map fun q=>vals (q / sz') (q%sz'))[q]? =some (vals (q / sz') (q%sz')):=by
      intro q hq;simp [hq]
     have hfl:Flat w F sz' ys ((List.range (ys.length*sz')).map fun q=>vals (q / sz') (q%sz')):=by
      refine ⟨by simp,fun i cs hi=>⟨hsz i cs hi,hone i cs hi⟩,fun i cs j s hi hj=>⟨vals i j,?_,hrep i cs j s hi hj⟩⟩
      have hi':=(List.getElem?_eq_some_iff.1 hi).1
      have hj':j<sz':=by rw [←hsz i cs hi];exact (List.getElem?_eq_some_iff.1 hj).1
      rw [hget _ (idx_lt hi' hj')]
      have e1:(i*sz'+j) / sz'=i:=by rw [Nat.mul_comm,Nat.mul_add_div hpos,Nat.div_eq_of_lt hj'];omega
      have e2:(i*sz'+j) %sz'=j:=by rw [Nat.mul_comm,Nat.mul_add_mod,Nat.mod_eq_of_lt hj']
      rw [e1,e2]
     refine ⟨⟨A,c,_,rfl,hfl,flat_ones hfl,fun _=>⟨a,hA1,fun q u hu=> ?_⟩⟩⟩
     have hq:q<ys.length*sz':=by have:=(List.getElem?_eq_some_iff.1 hu).1;simpa using this
     rw [hget q hq] at hu
     injection hu with hu
     subst hu
     have hi:q / sz'<ys.length:=by rw [Nat.div_lt_iff_lt_mul hpos];exact hq
     have hj:q%sz'<(ys[q / sz']).length:=by rw [hsz _ _ (List.getElem?_eq_getElem hi)];exact Nat.mod_lt _ hpos
     have:=hcell _ _ _ _ (List.getElem?_eq_getElem hi) (List.getElem?_eq_getElem hj)
     rw [cy hA3]
     rw [Nat.add_assoc,Nat.div_add_mod'] at this
     exact this
theorem src_row {el sz:Nat} {ys:List (List AV)} {x:Value} (h:cL w F el sz ys x):Src w F sz ys x:=by
 obtain ⟨hsz,h⟩:=h
 rcases h with ⟨rfl,rfl⟩|⟨b,c,vs,rfl,hF,hb,hvs,hle,hmx,hrep⟩
 ·exact ⟨⟨none,0,[],rfl,⟨by simp,by simp,by simp⟩,by simp,fun h=>absurd rfl h⟩⟩
 ·have hlen:ys.length*sz≤vs.size:=by rw [hvs];exact Nat.mul_le_mul_right _ hle
  have hfl:Flat w F sz ys (vs.toList.take (ys.length*sz)):=by
   refine ⟨by simp;omega,hsz,fun i cs j s hi hj=> ?_⟩
   obtain ⟨y,hy,hr⟩:=hrep i cs j s hi hj
   refine ⟨y,?_,hr⟩
   rw [List.getElem?_take_of_lt (idx_lt (List.getElem?_eq_some_iff.1 hi).1 (by rw [←(hsz i cs hi).1];exact (List.getElem?_eq_some_iff.1 hj).1))]
   simpa using hy
  refine ⟨⟨_,c,_,rfl,hfl,flat_ones hfl,fun _=>⟨_,rfl,fun j u hu=> ?_⟩⟩⟩
  rw [cy rfl,Nat.zero_add,cell_of_row w b j vs el _ hb]
  have hj:j<ys.length*sz:=by
   have:=(List.getElem?_eq_some_iff.1 hu).1
   rw [List.length_take] at this
   omega
  rw [List.getElem?_take_of_lt hj] at hu
  simpa using hu
theorem run_append_zero {t el:TypeId} {te:TI} (ht:P.underlying t=some (.slice el)) (ge:aq P el te) (ty:TypeId) (B A:Option Addr) (n c c':Nat) (h:n≤c) (w:World):
 (Builtin.append_ #[t,t] ty #[.slice B n c,.slice A 0 c']).run P w= .ok (.slice B n c) w:=by
 cases B<;>cases A<;>simp [Builtin.append_,run_underlying ht,ge.sizeOf w,Builtin.lenOf,Builtin.firstCells,h,loadCells,loadCellsFrom,storeCells]
theorem append_sound {t el:TypeId} {te:TI} (ht:P.underlying t=some (.slice el)) (ge:aq P el te) (hz:0<te.size) (ty:TypeId) {xs ys:List (List AV)} {v x:Value} (hrow:cL w F el te.size xs v) (hsrc:Src w F te.size ys x)
 (hb:(xs.length+ys.length)*te.bytes≤140737488355328) (hb0:0<te.bytes) (hFb: ∀b,F b→b<w.heap.size):
 ∃v' w',(Builtin.append_ #[t,t] ty #[v,x]).run P w= .ok v' w'∧cL w' F el te.size (xs++ys) v'∧w.grownBy w' v.ownBlock∧(v'.ownBlock=v.ownBlock∨v'.ownBlock=some w.heap.size)∧(ys=[]→v'=v):=by
 obtain ⟨A,c,news,rfl,hfl,hone,hcell⟩:=hsrc.out
 by_cases hy:ys=[]
 ·subst hy
  have hv: ∃B n cc,v= .slice B n cc∧n≤cc:=by
   rcases hrow.2 with ⟨_,hv⟩|⟨b,cc,vs,hv,_,_,_,hle,_⟩
   ·exact ⟨_,_,_,hv,Nat.le_refl _⟩
   ·exact ⟨_,_,_,hv,hle⟩
  obtain ⟨B,n,cc,rfl,hle⟩:=hv
  exact ⟨_,w,run_append_zero ht ge ty B A n cc c hle w,by simpa using hrow,World.grownBy.refl w _,.inl rfl,fun _=>rfl⟩
 ·obtain ⟨a,rfl,hc⟩:=hcell hy
  obtain ⟨vs,hxf,hown⟩:=hrow.owns
  obtain ⟨i,hi,hs,hby,z,hzz,hzc⟩:=ge.info
  have hlen:xs.length+ys.length≤140737488355328:=Nat.le_trans (Nat.le_mul_of_pos_right _ hb0) hb
  obtain ⟨v',w',hr,h1,h2,_,h4⟩:=run_append_own_at (P:=P) w 0 t ty el i z te.size te.bytes ht hi hzz hs hby (by rw [←Array.length_toList,hzc];exact ge.zlen) hz v xs.length vs hown a ys.length c news hfl.1 hc hone (by simp only [maxLen];omega) hb (Nat.zero_le _)
  refine ⟨v',w',hr,?_,h2,h4,fun h=>absurd h hy⟩
  have L:bS w F w' F:=⟨fun _ h=>h,fun b hbF=>h2.block b (hFb b hbF) (fun hk=> ?_)⟩
  ·refine cL.of_owns ((hxf.mono L).append (hfl.mono L)) (by simpa using h1) (fun b hb' hF=> ?_)
   rcases h4 with h4|h4
   ·rw [h4] at hb'
    rcases hrow.2 with ⟨_,hv⟩|⟨b',cc,vs',hv,hnF,_⟩
    ·rw [hv] at hb';cases hb'
    ·rw [hv] at hb'
     simp only [Value.ownBlock,Option.some.injEq] at hb'
     subst hb';exact hnF hF
   ·rw [h4] at hb'
    injection hb' with hb'
    subst hb'
    exact absurd (hFb _ hF) (by omega)
  ·rcases hrow.2 with ⟨_,hv⟩|⟨b',cc,vs',hv,hnF,_⟩
   ·rw [hv] at hk;cases hk
   ·rw [hv] at hk
    simp only [Value.ownBlock,Option.some.injEq] at hk
    subst hk;exact hnF hbF
end
end Go.Ab
namespace Go.Ab
set_option linter.unusedVariables false
set_option linter.unusedSimpArgs false
section
variable {P:Program} {C:Ctx} {H H':List Ob} {w w':World} {F F':Nat→Prop} {e e':Env}
theorem Mem.calm (M:Mem C H w F e) (T:bV w w' (fun _=>False)) (hs: ∀b,F b→F' b) (hn: ∀b,F' b→F b∨w.heap.size≤b) (hb: ∀b,F' b→b<w'.heap.size):Mem C H w' F' e:=by
 have L:bS w F w' F':=⟨hs,fun b hb=>T.block b (M.bound b hb) (fun h=>h)⟩
 refine ⟨⟨M.heap.len,fun o x hx=> ?_,M.heap.one⟩,⟨T.os.trans M.mod.os,T.tape.trans M.mod.tape,T.output.trans M.mod.output,Nat.le_trans M.mod.size T.size,fun b hb hn=> ?_⟩,M.ours,fun b hb=>hs b (M.sub b hb),hb,fun b hb=> ?_,M.env,M.g⟩
 ·have hlt:o<e.len:=by rw [M.heap.len];exact (List.getElem?_eq_some_iff.1 hx).1
  refine ObRep.keep hx hlt (M.heap.ob o x hx) L (fun b hb=> ?_) (aH.refl e) rfl rfl (fun b hb=>T.block b (hb.lt M.heap) (fun h=>h))
  rcases hn b hb with h|h
  ·exact .inl h
  ·exact .inr fun hown=>by have:=hown.lt M.heap;omega
 ·rw [T.block b (Nat.lt_of_lt_of_le hb M.mod.size) (fun h=>h)];exact M.mod.block b hb hn
 ·rcases hn b hb with h|h
  ·exact M.fresh b h
  ·exact .inr (.inl (Nat.le_trans M.mod.size h))
theorem Mem.freeze (M:Mem C H w F e) {o el sz:Nat} {xs:List (List AV)} (ho:H[o]? =some (.row el sz xs)):
 ∃F',bS w F w F'∧Mem C (H.set o (.frz sz xs)) w F' e∧ch w F' Env.nil (.sl xs) (e.rowv o)∧(∀b,F' b→F b∨ap e H o b):=by
 have hlt:o<H.length:=(List.getElem?_eq_some_iff.1 ho).1
 obtain ⟨hrl,hown⟩:=M.heap.ob o _ ho
 refine ⟨fun b=>F b∨ap e H o b,?_⟩
 have L:bS w F w (fun b=>F b∨ap e H o b):=⟨fun b hb=>.inl hb,fun _ _=>rfl⟩
 have hr:ch w (fun b=>F b∨ap e H o b) Env.nil (.sl xs) (e.rowv o):=by
  obtain ⟨hsz,hown⟩:=hown
  rcases hown with ⟨rfl,hv⟩|⟨b,c,vs,hv,hF,hb,hvs,hle,hmx,hrep⟩
  ·rw [hv]
   exact .sl sz default (fun _ _=>undef) (Nat.le_refl _) (fun h=>absurd rfl h) (fun i cs h=>by simp at h) (fun i cs h=>by simp at h) (fun i cs j s h=>by simp at h) (fun i cs j s h=>by simp at h)
  ·rw [hv]
   refine .sl sz ⟨b,0,none⟩ (fun i j=>vs.getD (i*sz+j) undef) hle (fun _=>⟨rfl,.inr ?_,rfl⟩) (fun i cs h=>(hsz i cs h).1) (fun i cs h=>(hsz i cs h).2) (fun i cs j s hi hj=> ?_) (fun i cs j s hi hj=> ?_)
   ·unfold ap;rw [ho];exact ⟨_,_,hv⟩
   ·obtain ⟨y,hy,_⟩:=hrep i cs j s hi hj
    rw [Nat.zero_add,cell_of_row w b _ vs el _ hb,hy,Array.getD_eq_getD_getElem?,hy]
    rfl
   ·obtain ⟨y,hy,hyr⟩:=hrep i cs j s hi hj
    have:vs.getD (i*sz+j) undef=y:=by rw [Array.getD_eq_getD_getElem?,hy];rfl
    rw [this]
    exact hyr.mono L (aH.refl _)
 have hold: ∀o' b,o'≠o→(ap e (H.set o (.frz sz xs)) o' b↔ap e H o' b):=by
  intro o' b hn
  unfold ap
  rw [List.getElem?_set_ne (Ne.symm hn)]
 have hnone: ∀b,¬ap e (H.set o (.frz sz xs)) o b:=by
  intro b h
  unfold ap at h
  simp [hlt] at h
 refine ⟨L,⟨⟨by simp [M.heap.len],fun o' x hx=> ?_,fun o1 o2 b h1 h2=> ?_⟩,M.mod,fun o' b hb=> ?_,fun b hb=>.inl (M.sub b hb),fun b hb=> ?_,fun b hb=> ?_,M.env,M.g⟩,hr,fun b hb=>hb⟩
 ·by_cases hn:o'=o
  ·subst hn
   simp [hlt] at hx
   subst hx
   exact ⟨hrl,fun i cs h=>((hown.1) i cs h).1,hr⟩
  ·rw [List.getElem?_set_ne (Ne.symm hn)] at hx
   have hlt':o'<e.len:=by rw [M.heap.len];exact (List.getElem?_eq_some_iff.1 hx).1
   refine ObRep.keep hx hlt' (M.heap.ob o' x hx) L (fun b hb=> ?_) (aH.refl e) rfl rfl (fun b hb=>rfl)
   rcases hb with hb|hb
   ·exact .inl hb
   ·exact .inr fun h=>hn (M.heap.one _ _ _ h hb)
 ·by_cases n1:o1=o
  ·subst n1;exact absurd h1 (hnone b)
  ·by_cases n2:o2=o
   ·subst n2;exact absurd h2 (hnone b)
   ·exact M.heap.one _ _ _ ((hold o1 b n1).1 h1) ((hold o2 b n2).1 h2)
 ·by_cases hn:o'=o
  ·subst hn;exact absurd hb (hnone b)
  ·exact M.ours _ _ ((hold o' b hn).1 hb)
 ·rcases hb with hb|hb
  ·exact M.bound b hb
  ·exact hb.lt M.heap
 ·rcases hb with hb|hb
  ·exact M.fresh b hb
  ·rcases M.ours _ _ hb with h|h
   ·exact .inr (.inl h)
   ·exact .inr (.inr h)
def nrm:Value→AV
 | .slice none 0 0=>.sl []
 |x=>.v x
mutual
def pureB:AV→Bool
 | .v _=>true
 | .sl _=>true
 | .agg cs=>pureBs cs
 | .ifc _ x=>pureB x
 |_=>false
def pureBs:List AV→Bool
 |[]=>true
 |x::r=>pureB x&&pureBs r
end
def purC (H:List Ob) (a:AV) (k:AV→Prop):Prop:=
 match a with
 | .v x=>k (nrm x)
 | .sl xs=>k (.sl xs)
 | .slc xs=>k (.sl xs)
 | .row o n=>
   (match H[o]? with
   |some (.row _ _ xs)=>Need (n=xs.length)<|k (.sl xs)
   |some (.frz _ xs)=>Need (n=xs.length)<|k (.sl xs)
   |_=>False)
 | .ifc t x=>Chk (pureB x)<|k (.ifc t x)
 |_=>False
def purL (H:List Ob):List AV→(List AV→Prop)→Prop
 |[],k=>k []
 |a::r,k=>purC H a fun x=>purL H r fun xs=>k (x::xs)
def frzC (H:List Ob):AV→List Ob
 | .row o _=>(match H[o]? with|some (.row _ sz xs)=>H.set o (.frz sz xs)|_=>H)
 |_=>H
def frzL (H:List Ob):List AV→List Ob
 |[]=>H
 |a::r=>frzL (frzC H a) r
mutual
theorem pure_env {w:World} {F:Nat→Prop} {e e':Env}: ∀(s:AV) (x:Value),pureB s=true→ch w F e s x→ch w F e' s x
 | .v y,x,_,h=>by rw [h.v_inv];exact .v
 | .sl xs,x,_,h=>by cases h with|sl sz a vals hc hA hsz hone hcell hrep=>exact .sl sz a vals hc hA hsz hone hcell hrep
 | .agg cs,x,hp,h=>by
   obtain ⟨vs,rfl,h1,h2⟩:=h.agg_inv
   exact .agg h1 (pures_env cs (fun j=>vs.getD j undef) (by simpa [pureB] using hp) h2)
 | .ifc t y,x,hp,h=>by
   obtain ⟨z,rfl,hz⟩:=h.ifc_inv
   exact .ifc (pure_env y z (by simpa [pureB] using hp) hz)
 | .ptr ..,_,hp,_| .row ..,_,hp,_| .rptr ..,_,hp,_| .vw ..,_,hp,_| .eptr ..,_,hp,_| .fn ..,_,hp,_| .tup ..,_,hp,_| .dead,_,hp,_=>by simp [pureB] at hp
theorem pures_env {w:World} {F:Nat→Prop} {e e':Env}: ∀(cs:List AV) (f:Nat→Value),pureBs cs=true→(∀(j:Nat) s,cs[j]? =some s→ch w F e s (f j))→ ∀(j:Nat) s,cs[j]? =some s→ch w F e' s (f j)
 |[],f,_,_,j,s,hj=>by simp at hj
 |c::r,f,hp,h,j,s,hj=>by
  simp only [pureBs,Bool.and_eq_true] at hp
  cases j with
  |zero=>
   simp at hj
   subst hj
   exact pure_env c (f 0) hp.1 (h 0 c rfl)
  |succ j=>exact pures_env r (fun q=>f (q+1)) hp.2 (fun q s hq=>h (q+1) s (by simpa using hq)) j s (by simpa using hj)
end
theorem nrm_rep {w:World} {F:Nat→Prop} {e:Env} (x:Value):ch w F e (nrm x) x:=by
 unfold nrm
 split
 ·exact .sl 0 default (fun _ _=>undef) (Nat.le_refl 0) (fun h=>absurd rfl h) (fun i cs h=>by simp at h) (fun i cs h=>by simp at h) (fun i cs j s h=>by simp at h) (fun i cs j s h=>by simp at h)
 ·exact .v
theorem nrm_one {x:Value}:(nrm x).one=x.oneCell':=by
 unfold nrm
 split<;>rfl
def Froze (H H':List Ob):Prop:=H'.length=H.length∧ ∀(o:Nat),H'[o]? =H[o]? ∨ ∃(el sz:Nat) (xs:List (List AV)),H[o]? =some (Ob.row el sz xs)∧H'[o]? =some (Ob.frz sz xs)
theorem Froze.refl (H:List Ob):Froze H H:=⟨rfl,fun _=>.inl rfl⟩
theorem Froze.step {H H1:List Ob} (h:Froze H H1) (a:AV):Froze H (frzC H1 a):=by
 unfold frzC
 split
 ·rename_i o n
  split
  ·rename_i el sz xs ho
   refine ⟨by simp [h.1],fun o'=> ?_⟩
   by_cases hn:o'=o
   ·subst hn
    have hlt:=(List.getElem?_eq_some_iff.1 ho).1
    rcases h.2 o' with k|⟨el',sz',xs',k1,k2⟩
    ·exact .inr ⟨el,sz,xs,by rw [←k];exact ho,by simp [hlt]⟩
    ·rw [ho] at k2;cases k2
   ·rw [List.getElem?_set_ne (Ne.symm hn)];exact h.2 o'
  ·exact h
 ·exact h
theorem purC_sound {H0:List Ob} (hf:Froze H0 H) (M:Mem C H w F e) {a:AV} {x:Value} (hx:ch w F e a x) {k:AV→Prop} (h:purC H0 a k):
 ∃a' F',k a'∧bS w F w F'∧Mem C (frzC H a) w F' e∧ch w F' Env.nil a' x∧a'.one=a.one∧(∀b,F' b→F b∨ ∃o,ap e H o b):=by
 unfold purC at h
 split at h
 ·rename_i y
  have:=hx.v_inv;subst this
  exact ⟨_,F,h,bS.refl w F,M,nrm_rep _,nrm_one,fun b hb=>.inl hb⟩
 ·rename_i xs
  exact ⟨_,F,h,bS.refl w F,M,pure_env _ _ rfl hx,rfl,fun b hb=>.inl hb⟩
 ·rename_i xs
  cases hx with
  |slc hc hx=>exact ⟨_,F,h,bS.refl w F,M,pure_env _ _ rfl hx,rfl,fun b hb=>.inl hb⟩
 ·rename_i o n
  have key: ∀(xs:List (List AV)),(∃(el sz:Nat),H0[o]? =some (Ob.row el sz xs))∨(∃(sz:Nat),H0[o]? =some (Ob.frz sz xs))→n=xs.length→k (.sl xs)→
   ∃a' F',k a'∧bS w F w F'∧Mem C (frzC H (.row o n)) w F' e∧ch w F' Env.nil a' x∧a'.one=(AV.row o n).one∧(∀b,F' b→F b∨ ∃o,ap e H o b):=by
   intro xs hxs hn hk
   have hcase:(∃(el sz:Nat),H[o]? =some (Ob.row el sz xs))∨ ∃(sz:Nat),H[o]? =some (Ob.frz sz xs):=by
    rcases hf.2 o with h1|⟨el,sz,ys,h1,h2⟩
    ·rw [h1];exact hxs
    ·rcases hxs with ⟨el',sz',h3⟩|⟨sz',h3⟩
     ·rw [h1] at h3;injection h3 with h3;injection h3 with _ _ h3;subst h3;exact .inr ⟨_,h2⟩
     ·rw [h1] at h3;cases h3
   rcases hcase with ⟨el,sz,ho⟩|⟨sz,ho⟩
   ·obtain ⟨F',L,M',hr,hnew⟩:=M.freeze ho
    obtain ⟨hrl,_⟩:=M.heap.ob o _ ho
    refine ⟨.sl xs,F',hk,L,?_,?_,rfl,fun b hb=>(hnew b hb).imp id fun h=>⟨o,h⟩⟩
    ·unfold frzC;simp only;rw [ho];exact M'
    ·cases hx with
     |row hl hn' hv=>rw [←hv];exact hr
     |rowold hl hn'=>omega
   ·obtain ⟨hrl,_,hr⟩:=M.heap.ob o _ ho
    refine ⟨.sl xs,F,hk,bS.refl w F,?_,?_,rfl,fun b hb=>.inl hb⟩
    ·unfold frzC;simp only;rw [ho];exact M
    ·cases hx with
     |row hl hn' hv=>rw [←hv];exact hr
     |rowold hl hn'=>omega
  split at h
  ·rename_i el sz xs ho;exact key xs (.inl ⟨_,_,ho⟩) h.h h.k
  ·rename_i sz xs ho;exact key xs (.inr ⟨_,ho⟩) h.h h.k
  ·exact h.elim
 ·rename_i t y
  exact ⟨_,F,h.elim.2,bS.refl w F,M,pure_env _ _ (by simpa [pureB] using h.elim.1) hx,rfl,fun b hb=>.inl hb⟩
 ·exact h.elim
theorem purL_sound {H0:List Ob}: ∀(cs:List AV) {H:List Ob} {F:Nat→Prop} (hf:Froze H0 H) (M:Mem C H w F e) (f:Nat→Value) (hx: ∀(j:Nat) s,cs[j]? =some s→ch w F e s (f j)) {k:List AV→Prop} (h:purL H0 cs k),
 ∃cs' F',k cs'∧bS w F w F'∧Mem C (frzL H cs) w F' e∧cs'.length=cs.length∧(∀(j:Nat) s,cs'[j]? =some s→ch w F' Env.nil s (f j))∧ones cs'=ones cs∧(∀b,F' b→F b∨ ∃o,ap e H o b)
 |[],H,F,hf,M,f,hx,k,h=>⟨[],F,h,bS.refl w F,M,rfl,fun j s hj=>by simp at hj,rfl,fun b hb=>.inl hb⟩
 |a::r,H,F,hf,M,f,hx,k,h=>by
  simp only [purL] at h
  obtain ⟨a',F1,h1,L1,M1,r1,o1,n1⟩:=purC_sound hf M (hx 0 a rfl) h
  obtain ⟨cs',F2,h2,L2,M2,l2,r2,o2,n2⟩:=purL_sound r (hf.step a) M1 (fun j=>f (j+1)) (fun j s hj=>(hx (j+1) s (by simpa using hj)).mono L1 (aH.refl e)) h1
  refine ⟨a'::cs',F2,h2,L1.trans L2,M2,by simp [l2],fun j s hj=> ?_,by simp only [ones,List.all_cons] at*;rw [o1,o2],fun b hb=> ?_⟩
  ·cases j with
   |zero=>simp at hj;subst hj;exact r1.mono L2 (aH.refl _)
   |succ j=>exact r2 j s (by simpa using hj)
  ·rcases n2 b hb with h|⟨o,ho⟩
   ·exact n1 b h
   ·refine .inr ⟨o,?_⟩
    unfold ap at ho⊢
    have hs:Froze H (frzC H a):=(Froze.refl H).step a
    rcases hs.2 o with k1|⟨el,sz,xs,k1,k2⟩
    ·rw [k1] at ho;exact ho
    ·rw [k2] at ho;exact ho.elim
end
end Go.Ab
namespace Go.Ab
set_option linter.unusedVariables false
set_option linter.unusedSimpArgs false
def Callable (P:Program) (g:FuncId):Prop:= ∃fn,P.funcs[g]? =some fn∧(fn.name == "runtime.NumGoroutine")=false∧fn.body.isNone=false
theorem run_callFunc {P:Program} {g:FuncId} (h:Callable P g) (args:Array Value) (w:World):(callFunc g args).run P w= .ok (.enter g args) w:=by
 obtain ⟨fn,h1,h2,h3⟩:=h
 unfold callFunc
 rw [Sem.run_bind,run_program]
 simp only [Result.andThen_ok,h1,h2,h3,Bool.false_eq_true,if_false,Sem.run_pure]
structure PureP (P:Program) (g:FuncId) (args:List AV) (K:AV→Prop):Prop where
 call:Callable P g
 run: ∀(w:World) (F:Nat→Prop) (vs:Array Value),GW w→(∀b,F b→b<w.heap.size)→bA w F Env.nil args vs→Calls P g vs w fun en w'=>
  ∃r x F',en= .returned x∧K r∧ch w' F' Env.nil r x∧(∀b,F b→F' b)∧(∀b,F' b→F b∨w.heap.size≤b)∧(∀b,F' b→b<w'.heap.size)∧bV w w' (fun _=>False)
structure du (P:Program) (g:FuncId) (H:List Ob) (args:List AV) (K:AV→List Ob→Prop):Prop where
 call:Callable P g
 run: ∀(C:Ctx) (w:World) (F:Nat→Prop) (e:Env) (vs:Array Value),Mem C H w F e→bA w F e args vs→Calls P g vs w fun en w'=>
  ∃r x H' F' e',en= .returned x∧K r H'∧Mem C H' w' F' e'∧ch w' F' e' r x∧aH e e'∧bS w F w' F'
structure FreshP (P:Program) (g:FuncId) (args:List AV) (el sz:Nat) (K:List (List AV)→Prop):Prop where
 call:Callable P g
 run: ∀(w:World) (F:Nat→Prop) (vs:Array Value),GW w→(∀b,F b→b<w.heap.size)→bA w F Env.nil args vs→Calls P g vs w fun en w'=>
  ∃xs x F',en= .returned x∧K xs∧cL w' F' el sz xs x∧(∀b,x.ownBlock=some b→w.heap.size≤b)∧(∀b,F b→F' b)∧(∀b,F' b→F b∨w.heap.size≤b)∧(∀b,F' b→b<w'.heap.size)∧bV w w' (fun _=>False)
theorem FreshP.mono {P:Program} {g:FuncId} {args:List AV} {el sz:Nat} {K K':List (List AV)→Prop} (h:FreshP P g args el sz K) (hk: ∀r,K r→K' r):FreshP P g args el sz K':=
 ⟨h.call,fun w F vs hg hb hr=>(h.run w F vs hg hb hr).mono fun en w' ⟨xs,x,F',h1,h2,h3⟩=>⟨xs,x,F',h1,hk xs h2,h3⟩⟩
theorem PureP.mono {P:Program} {g:FuncId} {args:List AV} {K K':AV→Prop} (h:PureP P g args K) (hk: ∀r,K r→K' r):PureP P g args K':=
 ⟨h.call,fun w F vs hg hb hr=>(h.run w F vs hg hb hr).mono fun en w' ⟨r,x,F',h1,h2,h3⟩=>⟨r,x,F',h1,hk r h2,h3⟩⟩
theorem du.mono {P:Program} {g:FuncId} {H:List Ob} {args:List AV} {K K':AV→List Ob→Prop} (h:du P g H args K) (hk: ∀r H',K r H'→K' r H'):du P g H args K':=
 ⟨h.call,fun C w F e vs hm hr=>(h.run C w F e vs hm hr).mono fun en w' ⟨r,x,H',F',e',h1,h2,h3⟩=>⟨r,x,H',F',e',h1,hk r H' h2,h3⟩⟩
structure EatP (P:Program) (g:FuncId) (el sz:Nat) (xs:List (List AV)) (args:List AV) (K:List (List AV)→Prop):Prop where
 call:Callable P g
 run: ∀(w:World) (F:Nat→Prop) (v:Value) (vs:Array Value),GW w→(∀b,v.ownBlock=some b→GN b)→(∀b,F b→b<w.heap.size)→cL w F el sz xs v→bA w F Env.nil args vs→Calls P g (#[v]++vs) w fun en w'=>
  ∃ys x F',en= .returned x∧K ys∧cL w' F' el sz ys x∧(∀b,x.ownBlock=some b→v.ownBlock=some b∨w.heap.size≤b)∧(∀b,F b→F' b)∧(∀b,F' b→F b∨w.heap.size≤b∨v.ownBlock=some b)∧(∀b,F' b→b<w'.heap.size)∧bV w w' (fun b=>v.ownBlock=some b)
theorem EatP.mono {P:Program} {g:FuncId} {el sz:Nat} {xs:List (List AV)} {args:List AV} {K K':List (List AV)→Prop} (h:EatP P g el sz xs args K) (hk: ∀r,K r→K' r):EatP P g el sz xs args K':=
 ⟨h.call,fun w F v vs hg hn hb ho hr=>(h.run w F v vs hg hn hb ho hr).mono fun en w' ⟨xs,x,F',h1,h2,h3⟩=>⟨xs,x,F',h1,hk xs h2,h3⟩⟩
structure Gm where
 tys:Tys
 raw:List FuncId
 fresh:List (FuncId×Nat×Nat)
 eats:List FuncId
def St.put (S:St) (d:Option Nat) (r:AV):St:=
 match d with
 |some d=> {S with regs:=upd S.regs d r}
 |none=>S
def St.okD (S:St) (d:Option Nat):Bool:=
 match d with
 |some d=>Nat.blt d S.n
 |none=>true
def St.withHeap (S:St) (H:List Ob):St:= {S with heap:=H}
def purA (H:List Ob) (a:AV) (k:AV→Prop):Prop:=
 match a with
 | .agg cs=>purL H cs fun cs'=>k (.agg cs')
 |a=>purC H a k
def purAs (H:List Ob):List AV→(List AV→Prop)→Prop
 |[],k=>k []
 |a::r,k=>purA H a fun x=>purAs H r fun xs=>k (x::xs)
def frzA (H:List Ob):AV→List Ob
 | .agg cs=>frzL H cs
 |a=>frzC H a
def frzAs (H:List Ob):List AV→List Ob
 |[]=>H
 |a::r=>frzAs (frzA H a) r
def purable1:AV→Bool
 | .v _=>true
 | .sl _=>true
 | .slc _=>true
 | .row _ _=>true
 | .ifc _ x=>pureB x
 |_=>false
def purable:AV→Bool
 | .agg cs=>cs.all purable1
 |a=>purable1 a
def isV:AV→Bool
 | .v _=>true
 |_=>false
def scalarB:AV→Bool
 | .v _=>true
 | .tup vs=>vs.all isV
 |_=>false
def freshOf (g:FuncId):List (FuncId×Nat×Nat)→Option (Nat×Nat)
 |[]=>none
 |p::r=>match Nat.beq p.1 g with|true=>some p.2|false=>freshOf g r
def callS (P:Program) (G:Gm) (S:St) (g:FuncId) (args:List AV) (k:AV→St→Prop):Prop:=
 match !(G.raw.contains g)&&args.all purable with
 |true=>
  (match freshOf g G.fresh with
  |some p=>purAs S.heap args fun az=>FreshP P g az p.1 p.2 fun xs=>k (.row (frzAs S.heap args).length xs.length) (S.withHeap (frzAs S.heap args++[.row p.1 p.2 xs]))
  |none=>purAs S.heap args fun az=>PureP P g az fun r=>match scalarB r with|true=>k r S|false=>k r (S.withHeap (frzAs S.heap args)))
 |false=>
  (match G.eats.contains g with
  |true=>
   (match args with
   | .row o n::rest=>
     (match (frzAs S.heap rest)[o]? with
     |some (.row el sz xs)=>Chk (rest.all purable)<|Need (n=xs.length)<|purAs S.heap rest fun az=>EatP P g el sz xs az fun ys=>
       k (.row ((frzAs S.heap rest).set o .gone).length ys.length) (S.withHeap ((frzAs S.heap rest).set o .gone++[.row el sz ys]))
     |_=>False)
   |_=>False)
  |false=>du P g S.heap args fun r H'=>k r (S.withHeap H'))
def srcV (H:List Ob) (sz:Nat) (x:AV) (k:List (List AV)→Prop):Prop:=
 match x with
 | .sl ys=>Need (∀cs∈ys,cs.length=sz)<|k ys
 | .row o n=>
   (match H[o]? with
   |some (.row _ sz' ys)=>Chk (Nat.beq sz' sz)<|Need (n=ys.length)<|k ys
   |some (.frz sz' ys)=>Chk (Nat.beq sz' sz)<|Need (n=ys.length)<|k ys
   |_=>False)
 | .v (.slice none 0 0)=>k []
 |_=>False
def appendS (G:Gm) (S:St) (T:TypeId) (s x:AV) (k:AV→St→Prop):Prop:=
 match ty G.tys T with
 |some tl=>
  (match tl.u with
  | .slice el=>
    (match ty G.tys el with
    |some te=>Chk (Nat.ble 1 te.size&&Nat.ble 1 te.bytes)
     (match s with
     | .row o n=>
       (match S.heap[o]? with
       |some (.row el' sz xs)=>Chk (Nat.beq el' el&&Nat.beq sz te.size)<|Need (n=xs.length)<|srcV S.heap te.size x fun ys=>
         Need ((xs.length+ys.length)*te.bytes≤140737488355328)<|Re (xs++ys) fun zs=>k (.row o zs.length) (S.withHeap (S.heap.set o (.row el te.size zs)))
       |_=>False)
     | .vw o n sz lo hi=>
       (match x,S.heap[o]? with
       | .vw o' n' sz' lo' hi',some (.row el' sz2 xs)=>Chk (Nat.beq o' o&&Nat.beq el' el&&Nat.beq sz te.size&&Nat.beq sz' te.size&&Nat.beq sz2 te.size)<|
          Need (lo=0∧n=xs.length∧n'=xs.length∧hi+(hi' - lo')≤xs.length)<|
           Re (xs.take hi++(xs.drop lo').take (hi' - lo')++xs.drop (hi+(hi' - lo'))) fun zs=>k (.vw o n te.size 0 (hi+(hi' - lo'))) (S.withHeap (S.heap.set o (.row el te.size zs)))
       |_,_=>False)
     | .v (.slice none 0 0)=>srcV S.heap te.size x fun ys=>Need (ys.length*te.bytes≤140737488355328)<|Re ys fun ys=>k (.row S.heap.length ys.length) (S.withHeap (S.heap++[.row el te.size ys]))
     |_=>False)
    |none=>False)
  |_=>False)
 |none=>False
def rowsV (S:St) (sz:Nat):List Ob→Nat→List (Nat×Operand)→(List Ob→List (List AV)→Prop)→Prop
 |H,_,[],k=>k H []
 |H,i,(j,x)::r,k=>Chk (Nat.beq j i) (match cellsB (S.ev x) with
  |some ys=>Chk (Nat.beq ys.length sz&&ones ys)<|purL H ys fun ys'=>rowsV S sz (frzL H ys) (i+1) r fun H' rest=>k H' (ys'::rest)
  |none=>False)
def storeS (S:St) (a:AV) (ys:List AV) (k:St→Prop):Prop:=
 match a with
 | .ptr o off=>(match S.heap[o]? with|some (.var T cs)=>Chk (Nat.ble (off+ys.length) cs.length)<|k (S.withHeap (S.heap.set o (.var T (putCells cs off ys))))|_=>False)
 | .rptr o n sz i off=>
   (match S.heap[o]? with
   |some (.row el sz' xs)=>Chk (Nat.beq sz sz')<|Need (n=xs.length)<|Elem xs i fun cs=>Need (off+ys.length≤cs.length)<|Chk (pureBs ys)<|
     purL S.heap ys fun ys'=>Re (xs.set i (putCells cs off ys')) fun zs=>k (S.withHeap (S.heap.set o (.row el sz zs)))
   |_=>False)
 |_=>False
def clearS (G:Gm) (S:St) (T:TypeId) (x:AV) (k:St→Prop):Prop:=
 match ty G.tys T with
 |some tl=>
  (match tl.u with
  | .slice el=>
    (match ty G.tys el,x with
    |some te,.vw o n sz lo hi=>
     (match S.heap[o]? with
     |some (.row el' sz' xs)=>Chk (Nat.beq el' el&&Nat.beq sz te.size&&Nat.beq sz' te.size&&ones (te.zero.map nrm))<|Need (n=xs.length)<|
       Re (xs.take lo++List.replicate (hi - lo) (te.zero.map nrm)++xs.drop hi) fun zs=>k (S.withHeap (S.heap.set o (.row el te.size zs)))
     |_=>False)
    |_,_=>False)
  |_=>False)
 |none=>False
def callOp (P:Program) (G:Gm) (S:St) (c:Call) (q:Prop) (k:AV→St→Prop):Prop:=
 match c.callee with
 | .builtin b=>
   (match b,c.args.toList,c.argTypes.toList with
   | .append,[s,x],[T,T']=>Chk (Nat.beq T T')<|appendS G S T (S.ev s) (S.ev x) k
   | .clear,[x],[T]=>clearS G S T (S.ev x) fun S'=>k .dead S'
   |_,_,_=>q)
 | .value f=>
   (match S.ev f with
   | .fn (.func g) first caps=>callS P G S g (first++c.args.toList.map S.ev++caps) k
   |_=>False)
 |_=>False
structure OpP (P:Program) (o:Oper) (S:St) (K:St→Prop):Prop where
 out: ∀(C:Ctx) (a:Act) (w:World) (F:Nat→Prop) (e:Env) (Q:Exit→Act→World→Prop),Sat C S a w F e→o.wp P a w (fun a' w'=> ∃S' F' e',K S'∧Sat C S' a' w' F' e') Q
def isDelB (S:St) (c:Call):Bool:=
 match c.callee with
 | .builtin .delete=>true
 | .builtin .append=>(match c.args.toList with|s::_=>(match S.ev s with| .slc _=>true|_=>false)|_=>false)
 |_=>false
def step (P:Program) (G:Gm) (S:St) (o:Oper) (K:St→Prop):Prop:=
 Chk (S.okD o.dst)<|
 match o.op with
 | .alloc T=>(match ty G.tys T with|some ti=>K ((S.withHeap (S.heap++[.var T (ti.zero.map .v)])).put o.dst (.ptr S.heap.length 0))|none=>False)
 | .box T x=>(match cellsB (S.ev x) with|some cs=>K ((S.withHeap (S.heap++[.var T cs])).put o.dst (.ptr S.heap.length 0))|none=>False)
 | .store T a x=>
   (match ty G.tys T,cellsB (S.ev x) with
   |some ti,some ys=>Chk (Nat.beq ys.length ti.size&&ones ys)<|storeS S (S.ev a) ys fun S'=>K (S'.put o.dst .dead)
   |_,_=>False)
 | .buildSlice T n parts=>
   (match ty G.tys T with
   |some tl=>
    (match tl.u with
    | .slice el=>
      (match ty G.tys el with
      |some te=>Chk (Nat.beq parts.toList.length n&&Nat.ble 1 te.size&&Nat.ble (n*te.size) 16777216)<|rowsV S te.size S.heap 0 parts.toList fun H xs=>Re xs fun xs=>K ((S.withHeap (H++[.row el te.size xs])).put o.dst (.row H.length n))
      |none=>False)
    |_=>False)
   |none=>False)
 | .makeMap _ _=>OpP P o S K
 | .mapUpdate _ _ _ _=>OpP P o S K
 | .lookup _ _ _ _=>OpP P o S K
 | .call c=>(match isDelB S c with|true=>OpP P o S K|false=>callOp P G S c (valOp G.tys S o.op fun r=>K (S.put o.dst r)) fun r S'=>K (S'.put o.dst r))
 |op=>valOp G.tys S op fun r=>K (S.put o.dst r)
end Go.Ab
namespace Go.Ab
set_option linter.unusedVariables false
set_option linter.unusedSimpArgs false
section
variable {P:Program} {G:Gm} {C:Ctx} {S:St} {a:Act} {H H':List Ob} {w w':World} {F F':Nat→Prop} {e e':Env}
theorem Sat.here (h:Sat C S a w F e):Here S a w F e:=⟨h.regs,h.mem.heap,h.mem.bound⟩
theorem Sat.next (h:Sat C S a w F e) (L:bS w F w' F') (E:aH e e') (M:Mem C H' w' F' e') {r:AV} {x:Value} (hr:ch w' F' e' r x) {d:Option Nat} (hd:S.okD d=true):
 Sat C ((S.withHeap H').put d r) (a.put d x) w' F' e':=by
 cases d with
 |none=>exact ⟨h.defers,h.size,h.base,fun t=>(h.regs t).mono L E,M⟩
 |some d=>
  simp only [St.okD] at hd
  have hlt:d<S.n:=by
   have:Nat.blt d S.n=true:=hd
   simpa [Nat.blt_eq] using this
  refine ⟨h.defers,by simp [Act.put,St.put,St.withHeap,h.size],h.base,fun t=> ?_,M⟩
  simp only [Act.put,St.put,St.withHeap]
  rw [Array.getD_eq_getD_getElem?,Array.getElem?_setIfInBounds]
  by_cases ht:t=d
  ·subst ht
   rw [ba,if_pos rfl,if_pos (by rw [h.size];exact hlt)]
   exact hr
  ·rw [cj _ _ _ ht,if_neg (Ne.symm ht),←Array.getD_eq_getD_getElem?]
   exact (h.regs t).mono L E
def Goes (P:Program) (C:Ctx) (o:Oper) (a:Act) (w:World) (K:St→Prop) (Q:Exit→Act→World→Prop):Prop:=o.wp P a w (fun a' w'=> ∃S' F' e',K S'∧Sat C S' a' w' F' e') Q
theorem goes_value {o:Oper} {K:St→Prop} {Q:Exit→Act→World→Prop} {x:Value} (hrun:(execOp a.eval o).run P w= .ok (.value x) w') {S':St} (hK:K S') {F'} {e'} (hS:Sat C S' (a.put o.dst x) w' F' e'):Goes P C o a w K Q:=by
 unfold Goes Oper.wp
 rw [hrun]
 exact ⟨S',F',e',hK,hS⟩
theorem goes_skip {o:Oper} {K:St→Prop} {Q:Exit→Act→World→Prop} (hrun:(execOp a.eval o).run P w= .ok .skip w') {S':St} (hK:K S') {F'} {e'} (hS:Sat C S' (a.put o.dst undef) w' F' e'):Goes P C o a w K Q:=by
 unfold Goes Oper.wp
 rw [hrun]
 exact ⟨S',F',e',hK,hS⟩
theorem val_goes (hG:TyOk P G.tys) (h:Sat C S a w F e) {o:Oper} {K:St→Prop} {Q:Exit→Act→World→Prop} (hd:S.okD o.dst=true) (hv:valOp G.tys S o.op fun r=>K (S.put o.dst r)):Goes P C o a w K Q:=by
 obtain ⟨r,x,hK,hr,hy⟩:=valOp_sound (X:=fun _=>False) hG h.here o _ XOk.none hv
 refine goes_value (F':=F) (e':=e) (hy w (Agree.refl w)) hK ?_
 have:=h.next (bS.refl w F) (aH.refl e) h.mem hr hd
 exact this
theorem zero_cells {t:TypeId} {ti:TI} (g:aq P t ti) {z:Value} (hz:z.cells=ti.zero.toArray):bA w F e (ti.zero.map .v) z.cells:=by
 rw [hz]
 refine ⟨by simp,fun j s hj=> ?_⟩
 rw [List.getElem?_map] at hj
 cases hv:ti.zero[j]? with
 |none=>rw [hv] at hj;cases hj
 |some y=>
  rw [hv] at hj
  simp at hj
  subst hj
  rw [Array.getD_eq_getD_getElem?,List.getElem?_toArray,hv]
  exact .v
theorem alloc_goes (hG:TyOk P G.tys) (h:Sat C S a w F e) {o:Oper} {T:TypeId} {ti:TI} (ho:o.op= .alloc T) (ht:ty G.tys T=some ti) {K:St→Prop} {Q:Exit→Act→World→Prop} (hd:S.okD o.dst=true)
 (hK:K ((S.withHeap (S.heap++[.var T (ti.zero.map .v)])).put o.dst (.ptr S.heap.length 0))):Goes P C o a w K Q:=by
 obtain ⟨z,hz,hzc⟩:=(hG.get ht).zeroValue w
 have hr:(execOp a.eval o).run P w= .ok (.value (.pointer (some ⟨w.heap.size,0,none⟩))) (w.alloc (.cells z.cells T)):=by
  simp [execOp,ho,Instr.alloc,hz,newVar,newRow]
 refine goes_value hr hK (h.next (h.mem.later (cl w _ (ap e S.heap S.heap.length))) (aH.pushVar e w.heap.size) (h.mem.pushVar (zero_cells (hG.get ht) hzc)) ?_ hd)
 have:(e.pushVar w.heap.size).blk S.heap.length=w.heap.size:=by simp only [Env.pushVar];rw [←h.mem.heap.len];exact ba _ _ _
 have hlt:S.heap.length<(e.pushVar w.heap.size).len:=by show S.heap.length<e.len+1;rw [h.mem.heap.len];omega
 have hp:=fun (W:World)=>ch.ptr (w:=W) (F:=F) (off:=0) hlt
 rw [this] at hp
 exact hp _
theorem box_goes (h:Sat C S a w F e) {o:Oper} {T:TypeId} {x:Operand} (ho:o.op= .box T x) {cs:List AV} (hc:cellsB (S.ev x)=some cs) {K:St→Prop} {Q:Exit→Act→World→Prop} (hd:S.okD o.dst=true)
 (hK:K ((S.withHeap (S.heap++[.var T cs])).put o.dst (.ptr S.heap.length 0))):Goes P C o a w K Q:=by
 have hr:(execOp a.eval o).run P w= .ok (.value (.pointer (some ⟨w.heap.size,0,none⟩))) (w.alloc (.cells (a.eval x).cells T)):=by
  simp [execOp,ho,Instr.box,newVar,newRow]
 refine goes_value hr hK (h.next (h.mem.later (cl w _ (ap e S.heap S.heap.length))) (aH.pushVar e w.heap.size) (h.mem.pushVar (cellsB_sound hc (h.here.ev x))) ?_ hd)
 have:(e.pushVar w.heap.size).blk S.heap.length=w.heap.size:=by simp only [Env.pushVar];rw [←h.mem.heap.len];exact ba _ _ _
 have hlt:S.heap.length<(e.pushVar w.heap.size).len:=by show S.heap.length<e.len+1;rw [h.mem.heap.len];omega
 have hp:=fun (W:World)=>ch.ptr (w:=W) (F:=F) (off:=0) hlt
 rw [this] at hp
 exact hp _
theorem Mem.storeRow (M:Mem C H w F e) {o el sz i off:Nat} {xs:List (List AV)} {cs ys:List AV} {b m c:Nat} {us:Array Value} (ho:H[o]? =some (.row el sz xs)) (hv:e.rowv o= .slice (some ⟨b,0,none⟩) m c)
 (hi:xs[i]? =some cs) (hr:bA w F Env.nil ys us) (h1:ones ys=true) (hle:off+ys.length≤cs.length):
 ∃w',(storeCells ⟨b,i*sz+off,none⟩ us.toList).run P w= .ok () w'∧bV w w' (ap e H o)∧w'.heap.size=w.heap.size∧Mem C (H.set o (.row el sz (xs.set i (putCells cs off ys)))) w' F e:=by
 have hlt:o<H.length:=(List.getElem?_eq_some_iff.1 ho).1
 obtain ⟨hrl,hsz,hown⟩:=M.heap.ob o _ ho
 rcases hown with ⟨hnil,_⟩|⟨b',c',vs,hv',hF,hb,hvs,hcap,hmx,hrep⟩
 ·subst hnil;simp at hi
 rw [hv] at hv'
 injection hv' with hv' hm hc
 injection hv' with hv'
 injection hv' with hv' _ _
 subst hv' hm hc
 have hil:i<xs.length:=(List.getElem?_eq_some_iff.1 hi).1
 obtain ⟨hcl,hcone⟩:=hsz i cs hi
 have hbig:i*sz+sz≤vs.size:=by rw [hvs,←Nat.succ_mul];exact Nat.mul_le_mul_right _ (by omega)
 obtain ⟨w',h2,h3,h4,h5⟩:=run_storeCells (P:=P) b (i*sz+off) el us.toList 0 vs w hb (by have:=hr.1;simp;omega) (ones_values h1 hr)
 have hownb: ∀b1,b1=b→ap e H o b1:=fun b1 hbb=>by unfold ap;rw [ho];exact ⟨_,_,by rw [hbb];exact hv⟩
 have hT:bV w w' (ap e H o):=h3.mono hownb
 have L:bS w F w' F:=M.later hT
 refine ⟨w',h2,hT,h4,M.change (o:=o) (.row el sz (xs.set i (putCells cs off ys))) (by simp [M.heap.len]) (by simp) (fun o' hn=>by rw [List.getElem?_set_ne (Ne.symm hn)]) (by simp [hlt]) (aH.refl e) (fun o' _ _=>⟨rfl,rfl⟩) hT ?_ ?_⟩
 ·refine ⟨by simp [hrl],fun k ks hk=> ?_,.inr ⟨b,c,_,by rw [hv];simp,hF,h5,?_,by simpa using hcap,hmx,fun k ks j s hk hj=> ?_⟩⟩
  ·by_cases hki:i=k
   ·subst hki
    rw [List.getElem?_set_self hil] at hk
    ·injection hk with hk
     subst hk
     refine ⟨by rw [putCells_length];exact hcl,?_⟩
     have: ∀(ys cs:List AV) (off:Nat),ones ys=true→ones cs=true→ones (putCells cs off ys)=true:=by
      intro ys
      induction ys with
      |nil=>intro cs off _ h;exact h
      |cons y ys ih=>
       intro cs off hy hc
       simp only [ones,List.all_cons,Bool.and_eq_true] at hy
       refine ih _ _ hy.2 ?_
       simp only [ones,List.all_eq_true] at hc⊢
       intro x hx
       rcases List.mem_or_eq_of_mem_set hx with h|h
       ·exact hc x h
       ·subst h;exact hy.1
     exact this ys cs off h1 hcone
   ·rw [List.getElem?_set_ne hki] at hk
    exact hsz k ks hk
  ·have: ∀(l:List (Value×Nat)) (v:Array Value) (f:Nat),(l.foldl (fun c p=>c.setIfInBounds (f+p.2) p.1) v).size=v.size:=by
    intro l
    induction l with
    |nil=>intro v f;rfl
    |cons x l ih=>intro v f;simp only [List.foldl_cons];rw [ih];simp
   rw [this];exact hvs
  ·
   have getF: ∀(us:List Value) (j0:Nat) (v:Array Value) (f q:Nat),f+j0+us.length≤v.size→((us.zipIdx j0).foldl (fun c p=>c.setIfInBounds (f+p.2) p.1) v)[q]? =if f+j0≤q∧q<f+j0+us.length then us[q - (f+j0)]? else v[q]? :=by
    intro us
    induction us with
    |nil=>intro j0 v f q _;simp;omega
    |cons u us ih=>
     intro j0 v f q hq
     simp only [List.zipIdx_cons,List.foldl_cons]
     rw [ih (j0+1) _ f q (by simp at hq⊢;omega)]
     simp only [Array.getElem?_setIfInBounds,List.length_cons] at*
     by_cases c1:q=f+j0
     ·subst c1
      rw [if_neg (by omega),if_pos rfl,if_pos (by omega),if_pos (by omega)]
      simp
     ·by_cases c2:f+(j0+1)≤q∧q<f+(j0+1)+us.length
      ·rw [if_pos c2,if_pos (by omega)]
       have:q - (f+j0)=(q - (f+(j0+1)))+1:=by omega
       rw [this];simp
      ·rw [if_neg c2,if_neg (by omega),if_neg (by omega)]
   have hul:us.toList.length=ys.length:=by rw [Array.length_toList];exact hr.1
   have hget:=fun q=>getF us.toList 0 vs (i*sz+off) q (by rw [hul];omega)
   have hjk:j<sz:=by
    have:=(List.getElem?_eq_some_iff.1 hj).1
    have:ks.length=sz:=by
     by_cases hki:i=k
     ·subst hki
      rw [List.getElem?_set_self hil] at hk
      injection hk with hk;rw [←hk,putCells_length];exact hcl
     ·rw [List.getElem?_set_ne hki] at hk
      exact (hsz k ks hk).1
    omega
   rw [hget,hul]
   by_cases hki:k=i
   ·subst hki
    simp [hil] at hk
    subst hk
    have hput: ∀(ys cs:List AV) (off q:Nat),off+ys.length≤cs.length→(putCells cs off ys)[q]? =if off≤q∧q<off+ys.length then ys[q - off]? else cs[q]? :=by
     intro ys
     induction ys with
     |nil=>intro cs off q _;simp [putCells];omega
     |cons y ys ih=>
      intro cs off q hq
      simp only [List.length_cons] at hq
      simp only [putCells]
      rw [ih _ _ _ (by simp;omega),List.getElem?_set]
      simp only [List.length_cons]
      by_cases c1:q=off
      ·subst c1
       rw [if_neg (by omega),if_pos rfl,if_pos (by omega),if_pos (by omega)]
       simp
      ·by_cases c2:off+1≤q∧q<off+1+ys.length
       ·rw [if_pos c2,if_pos (by omega)]
        have:q - off=(q - (off+1))+1:=by omega
        rw [this];simp
       ·rw [if_neg c2,if_neg (Ne.symm c1),if_neg (by omega)]
    rw [hput ys cs off j hle] at hj
    by_cases hin:off≤j∧j<off+ys.length
    ·rw [if_pos hin] at hj
     rw [if_pos (by omega)]
     have:=hr.2 _ s hj
     have hlt2:j - off<us.size:=by rw [hr.1];omega
     refine ⟨us.getD (j - off) undef,?_,this.mono L (aH.refl _)⟩
     have e1:k*sz+j - (k*sz+off+0)=j - off:=by omega
     rw [e1]
     simp [Array.getD_eq_getD_getElem?,Array.getElem?_eq_getElem hlt2,hlt2]
    ·rw [if_neg hin] at hj
     rw [if_neg (by omega)]
     obtain ⟨y,hy,hyr⟩:=hrep k cs j s hi hj
     exact ⟨y,hy,hyr.mono L (aH.refl _)⟩
   ·rw [List.getElem?_set_ne (Ne.symm hki)] at hk
    have hout: ¬(i*sz+off+0≤k*sz+j∧k*sz+j<i*sz+off+0+ys.length):=by
     intro hc
     rcases Nat.lt_or_gt_of_ne hki with hlt'|hgt
     ·have:k*sz+sz≤i*sz:=by rw [←Nat.succ_mul];exact Nat.mul_le_mul_right _ hlt'
      omega
     ·have:i*sz+sz≤k*sz:=by rw [←Nat.succ_mul];exact Nat.mul_le_mul_right _ hgt
      omega
    rw [if_neg hout]
    obtain ⟨y,hy,hyr⟩:=hrep k ks j s hk hj
    exact ⟨y,hy,hyr.mono L (aH.refl _)⟩
 ·intro b1 hb'
  unfold ap at hb'
  simp [hlt] at hb'
  obtain ⟨n,c1,hv1⟩:=hb'
  exact .inl (by unfold ap;rw [ho];exact ⟨n,c1,hv1⟩)
end
end Go.Ab
namespace Go.Ab
set_option linter.unusedVariables false
set_option linter.unusedSimpArgs false
section
variable {P:Program} {G:Gm} {C:Ctx} {S:St} {a:Act} {H H':List Ob} {w w':World} {F F':Nat→Prop} {e e':Env}
theorem purL_pure {H0:List Ob} {cs:List AV} (hp:pureBs cs=true) {k:List AV→Prop} (h:purL H0 cs k) {f:Nat→Value} (hx: ∀(j:Nat) s,cs[j]? =some s→ch w F e s (f j)):
 ∃cs',k cs'∧cs'.length=cs.length∧(∀(j:Nat) s,cs'[j]? =some s→ch w F Env.nil s (f j))∧ones cs'=ones cs:=by
 induction cs generalizing k f with
 |nil=>exact ⟨[],h,rfl,fun j s hj=>by simp at hj,rfl⟩
 |cons a r ih=>
  simp only [pureBs,Bool.and_eq_true] at hp
  simp only [purL] at h
  have ha:=hx 0 a rfl
  have key: ∃a',(purL H0 r fun xs=>k (a'::xs))∧ch w F Env.nil a' (f 0)∧a'.one=a.one:=by
   cases a<;>simp only [purC,pureB,Bool.false_eq_true] at h hp
   case v x=>have:=ha.v_inv;rw [this];exact ⟨_,h,nrm_rep _,nrm_one⟩
   case sl xs=>exact ⟨_,h,pure_env _ _ rfl ha,rfl⟩
   case ifc t x=>exact ⟨_,h.elim.2,pure_env _ _ (by simpa [pureB] using h.elim.1) ha,rfl⟩
   all_goals first|exact hp.1.elim|exact h.elim
  obtain ⟨a',hk,hr,ho⟩:=key
  obtain ⟨cs',h1,h2,h3,h4⟩:=ih hp.2 hk (f:=fun j=>f (j+1)) (fun j s hj=>hx (j+1) s (by simpa using hj))
  refine ⟨a'::cs',h1,by simp [h2],fun j s hj=> ?_,by simp only [ones,List.all_cons] at*;rw [ho,h4]⟩
  cases j with
  |zero=>simp at hj;subst hj;exact hr
  |succ j=>exact h3 j s (by simpa using hj)
theorem run_storeVar {t:TypeId} {ti:TI} (g:aq P t ti) {x:Value} {ys:List AV} (hr:bA w F e ys x.cells) (hl:ys.length=ti.size) (ad:Addr):
 (storeVar t ad x).run P w=(storeCells ad x.cells.toList).run P w:=by
 unfold storeVar
 rw [Sem.run_bind,g.sizeOf w]
 simp only [Result.andThen_ok,Sem.run_bind]
 rw [if_neg (by rw [hr.1,hl];simp)]
theorem store_goes (hG:TyOk P G.tys) (h:Sat C S a w F e) {o:Oper} {T:TypeId} {A X:Operand} {ti:TI} (ho:o.op= .store T A X) (ht:ty G.tys T=some ti) {ys:List AV} (hc:cellsB (S.ev X)=some ys) {K:St→Prop} {Q:Exit→Act→World→Prop}
 (hd:S.okD o.dst=true) (hl:ys.length=ti.size) (h1:ones ys=true) (hs:storeS S (S.ev A) ys fun S'=>K (S'.put o.dst .dead)):Goes P C o a w K Q:=by
 have hr:=cellsB_sound hc (h.here.ev X)
 have hA:=h.here.ev A
 have hv:=fun ad=>run_storeVar (P:=P) (hG.get ht) hr hl ad
 have fin: ∀(ad:Addr) (w':World) (H':List Ob),a.eval A= .pointer (some ad)→(storeCells ad (a.eval X).cells.toList).run P w= .ok () w'→bS w F w' F→Mem C H' w' F e→K ((S.withHeap H').put o.dst .dead)→Goes P C o a w K Q:=by
  intro ad w' H' hA hrun L M hK
  have hr:(execOp a.eval o).run P w= .ok .skip w':=by
   simp [execOp,ho,hA,Instr.storeAt,Instr.sureAddr,hv ad,hrun]
  exact goes_skip hr hK (h.next L (aH.refl e) M .dead hd)
 unfold storeS at hs
 simp only [Re_eq] at hs
 split at hs
 ·rename_i ob off h2
  rw [h2] at hA
  obtain ⟨hlt,ex⟩:=hA.ptr_inv
  split at hs
  case h_2=>exact hs.elim
  rename_i T' cs hob
  obtain ⟨hle,hK⟩:=hs.len
  obtain ⟨w',hrun,_,hsz,M'⟩:=h.mem.store (P:=P) hob hr h1 hle
  have L:bS w F w' F:=by
   refine ⟨fun _ h=>h,fun b hb=> ?_⟩
   obtain ⟨vs,hb',hsz',hF,_⟩:=h.mem.heap.var hob
   obtain ⟨w2,h3,h4,_⟩:=run_storeCells (P:=P) (e.blk ob) off T' (a.eval X).cells.toList 0 vs w hb' (by have:=hr.1;simp;omega) (ones_values h1 hr)
   have:(Result.ok () w':Result Unit)= .ok () w2:=hrun.symm.trans h3
   injection this with _ hw
   subst hw
   exact h4.block b (h.mem.bound b hb) (fun hbb=>hF (hbb▸hb))
  exact fin _ w' _ ex hrun L M' hK
 ·rename_i ob n sz i off h2
  rw [h2] at hA
  split at hs
  case h_2=>exact hs.elim
  rename_i el sz' xs hob
  have hh:=hs.eqn
  clear hs
  obtain ⟨rfl,⟨hn,hh⟩⟩:=hh
  obtain ⟨cs,hcs,⟨hle,hh⟩⟩:=hh.out
  obtain ⟨hpure,hs⟩:=hh.elim
  obtain ⟨ys',hK,hl',hr',ho'⟩:=purL_pure (f:=fun j=>(a.eval X).cells.getD j undef) hpure hs hr.2
  generalize hX:a.eval A=AA at hA
  obtain ⟨hrl,_⟩:=h.mem.heap.ob ob _ hob
  cases hA with
  |rptrold hlt hn2=>omega
  |rptr hlt hn2 hv2=>
   obtain ⟨w',hrun,hT,hsz,M'⟩:=h.mem.storeRow (P:=P) hob hv2 hcs ⟨by rw [hl'];exact hr.1,hr'⟩ (by rw [ho'];exact h1) (by rw [hl'];exact hle)
   exact fin _ w' _ hX hrun (h.mem.later hT) M' hK
 ·exact hs.elim
theorem src_sound (h:Sat C S a w F e) {sz:Nat} {x:AV} {X:Value} (hx:ch w F e x X) {k:List (List AV)→Prop} (hs:srcV S.heap sz x k): ∃ys,k ys∧Src w F sz ys X:=by
 unfold srcV at hs
 split at hs
 ·rename_i ys
  exact ⟨ys,hs.k,src_sl hx hs.h⟩
 ·rename_i o n
  split at hs
  ·rename_i el sz' ys ho
   have hh:=hs.eqn
   clear hs
   obtain ⟨rfl,⟨hn,hk⟩⟩:=hh
   obtain ⟨hrl,hown⟩:=h.mem.heap.ob o _ ho
   refine ⟨ys,hk,?_⟩
   cases hx with
   |row hl hn' hv=>rw [←hv];exact src_row hown
   |rowold hl hn'=>omega
  ·rename_i sz' ys ho
   have hh:=hs.eqn
   clear hs
   obtain ⟨rfl,⟨hn,hk⟩⟩:=hh
   obtain ⟨hrl,hsz,hr⟩:=h.mem.heap.ob o _ ho
   refine ⟨ys,hk,?_⟩
   cases hx with
   |row hl hn' hv=>
    rw [←hv]
    refine src_sl hr (fun cs hcs=> ?_)
    obtain ⟨i,hi,rfl⟩:=List.getElem_of_mem hcs
    exact hsz i _ (List.getElem?_eq_getElem hi)
   |rowold hl hn'=>omega
  ·exact hs.elim
 ·have:=hx.v_inv
  subst this
  exact ⟨[],hs,⟨⟨none,0,[],rfl,⟨by simp,by simp,by simp⟩,by simp,fun h=>absurd rfl h⟩⟩⟩
 ·exact hs.elim
theorem foldSet_get: ∀(us:List Value) (j0:Nat) (v:Array Value) (f q:Nat),f+j0+us.length≤v.size→
 ((us.zipIdx j0).foldl (fun c p=>c.setIfInBounds (f+p.2) p.1) v)[q]? =if f+j0≤q∧q<f+j0+us.length then us[q - (f+j0)]? else v[q]? :=by
 intro us
 induction us with
 |nil=>intro j0 v f q _;simp;omega
 |cons u us ih=>
  intro j0 v f q hq
  simp only [List.zipIdx_cons,List.foldl_cons]
  rw [ih (j0+1) _ f q (by simp at hq⊢;omega)]
  simp only [Array.getElem?_setIfInBounds,List.length_cons] at*
  by_cases c1:q=f+j0
  ·subst c1
   rw [if_neg (by omega),if_pos rfl,if_pos (by omega),if_pos (by omega)]
   simp
  ·by_cases c2:f+(j0+1)≤q∧q<f+(j0+1)+us.length
   ·rw [if_pos c2,if_pos (by omega)]
    have:q - (f+j0)=(q - (f+(j0+1)))+1:=by omega
    rw [this];simp
   ·rw [if_neg c2,if_neg (by omega),if_neg (by omega)]
theorem foldSet_size: ∀(l:List (Value×Nat)) (v:Array Value) (f:Nat),(l.foldl (fun c p=>c.setIfInBounds (f+p.2) p.1) v).size=v.size:=by
 intro l
 induction l with
 |nil=>intro v f;rfl
 |cons x l ih=>intro v f;simp only [List.foldl_cons];rw [ih];simp
theorem Mem.pokeRow (M:Mem C H w F e) {o el sz:Nat} {xs ys:List (List AV)} {b c:Nat} {vs:Array Value} (ho:H[o]? =some (.row el sz xs)) (hv:e.rowv o= .slice (some ⟨b,0,none⟩) xs.length c) (hb:w.heap[b]? =some (.cells vs el (0,0)))
 (hvs:vs.size=c*sz) (hcap:xs.length≤c) (hmx:c≤maxLen) {us:List Value} {p:Nat} (hle:p+us.length≤vs.size) (h1: ∀u∈us,u.oneCell'=true) (hyl:ys.length=xs.length) (hys: ∀(i:Nat) cs,ys[i]? =some cs→cs.length=sz∧ones cs=true)
 (hrep: ∀(i:Nat) (cs:List AV) (j:Nat) s,ys[i]? =some cs→cs[j]? =some s→ ∃y,(if p≤i*sz+j∧i*sz+j<p+us.length then us[i*sz+j - p]? else vs[i*sz+j]?)=some y∧ch w F Env.nil s y):
 ∃w',(storeCells ⟨b,p,none⟩ us).run P w= .ok () w'∧bS w F w' F∧Mem C (H.set o (.row el sz ys)) w' F e:=by
 have hlt:o<H.length:=(List.getElem?_eq_some_iff.1 ho).1
 obtain ⟨hrl,hown0⟩:=M.heap.ob o _ ho
 have hF: ¬F b:=ap.notF M.heap (o:=o) (by unfold ap;rw [ho];exact ⟨_,_,hv⟩)
 obtain ⟨w',h2,h3,h4,h5⟩:=run_storeCells (P:=P) b p el us 0 vs w hb (by omega) h1
 have hownb: ∀b1,b1=b→ap e H o b1:=fun b1 hbb=>by unfold ap;rw [ho];exact ⟨_,_,by rw [hbb];exact hv⟩
 have hT:bV w w' (ap e H o):=h3.mono hownb
 have L:bS w F w' F:=M.later hT
 refine ⟨w',h2,L,M.change (o:=o) (.row el sz ys) (by simp [M.heap.len]) (by simp) (fun o' hn=>by rw [List.getElem?_set_ne (Ne.symm hn)]) (by simp [hlt]) (aH.refl e) (fun o' _ _=>⟨rfl,rfl⟩) hT ?_ ?_⟩
 ·refine ⟨by rw [hrl,hyl],hys,.inr ⟨b,c,_,by rw [hv,hyl],hF,h5,by rw [foldSet_size];exact hvs,by omega,hmx,fun i cs j s hi hj=> ?_⟩⟩
  obtain ⟨y,hy,hyr⟩:=hrep i cs j s hi hj
  refine ⟨y,?_,hyr.mono L (aH.refl _)⟩
  rw [foldSet_get us 0 vs p (i*sz+j) (by omega)]
  simpa using hy
 ·intro b1 hb'
  unfold ap at hb'
  simp [hlt] at hb'
  obtain ⟨n,c1,hv1⟩:=hb'
  exact .inl (by unfold ap;rw [ho];exact ⟨n,c1,hv1⟩)
theorem row_block (M:Mem C H w F e) {o el sz:Nat} {xs:List (List AV)} (ho:H[o]? =some (.row el sz xs)) {b m c:Nat} (hv:e.rowv o= .slice (some ⟨b,0,none⟩) m c):
 m=xs.length∧(∀(i:Nat) cs,xs[i]? =some cs→cs.length=sz∧ones cs=true)∧ ∃vs,w.heap[b]? =some (.cells vs el (0,0))∧vs.size=c*sz∧xs.length≤c∧c≤maxLen∧
  ∀(i:Nat) (cs:List AV) (j:Nat) s,xs[i]? =some cs→cs[j]? =some s→ ∃y,vs[i*sz+j]? =some y∧ch w F Env.nil s y:=by
 obtain ⟨hrl,hsz,hown⟩:=M.heap.ob o _ ho
 rcases hown with ⟨_,hv'⟩|⟨b',c',vs,hv',hF,hb,hvs,hcap,hmx,hrep⟩
 ·rw [hv] at hv';cases hv'
 ·rw [hv] at hv'
  injection hv' with hv' hm hc
  injection hv' with hv'
  injection hv' with hv' _ _
  subst hv' hm hc
  exact ⟨rfl,hsz,vs,hb,hvs,hcap,hmx,hrep⟩
theorem move_sound (M:Mem C H w F e) {t el:TypeId} {te:TI} (hde:P.underlying t=some (.slice el)) (ge:aq P el te) (ty:TypeId) {o n:Nat} {xs:List (List AV)} (ho:H[o]? =some (.row el te.size xs)) {hi lo' hi':Nat} {X Y:Value}
 (hX:ch w F e (.vw o n te.size 0 hi) X) (hY:ch w F e (.vw o n te.size lo' hi') Y) (hn:n=xs.length) (hle:hi+(hi' - lo')≤xs.length):
 ∃v w',(Builtin.append_ #[t,t] ty #[X,Y]).run P w= .ok v w'∧bS w F w' F∧Mem C (H.set o (.row el te.size (xs.take hi++(xs.drop lo').take (hi' - lo')++xs.drop (hi+(hi' - lo'))))) w' F e∧ch w' F e (.vw o n te.size 0 (hi+(hi' - lo'))) v:=by
 obtain ⟨hrl,_⟩:=M.heap.ob o _ ho
 cases hX with
 |vwold _ hn2=>omega
 | @vw _ _ _ _ _ _ b m c off hlt hn2 hv hle1 hhi1 hpos hoff=>
   cases hY with
   |vwold _ hn2=>omega
   | @vw _ _ _ _ _ _ b' m' c' off' _ _ hv' hle2 hhi2 _ hoff'=>
     rw [hv] at hv'
     injection hv' with hv' hm hc
     injection hv' with hv'
     injection hv' with hv' _ _
     subst hv' hm hc
     obtain ⟨hm,hsz,vs,hb,hvs,hcap,hmx,hrep⟩:=row_block M ho hv
     have hoff0:off=0:=by have:=hoff (by omega);simpa using this
     subst hoff0
     have hbound: ∀i,i≤xs.length→i*te.size≤vs.size:=fun i h=>by rw [hvs];exact Nat.mul_le_mul_right _ (by omega)
     let us:List Value:=(List.range ((hi' - lo')*te.size)).map fun q=>vs.getD (lo'*te.size+q) undef
     have husl:us.length=(hi' - lo')*te.size:=by simp [us]
     have husg: ∀q,q<(hi' - lo')*te.size→us[q]? =some (vs.getD (lo'*te.size+q) undef):=fun q hq=>by simp [us,hq]
     have hvg: ∀q,q<(hi' - lo')*te.size→vs[lo'*te.size+q]? =some (vs.getD (lo'*te.size+q) undef):=fun q hq=>getElem?_of_getD (by
      have:=hbound hi' (by omega)
      have e1:hi'*te.size=lo'*te.size+(hi' - lo')*te.size:=by rw [←Nat.add_mul];congr 1;omega
      omega)
     have hload:(loadCells ⟨b,off',none⟩ ((hi' - lo')*te.size)).run P w= .ok us.toArray w:=by
      rw [run_loadCells w ⟨b,off',none⟩ ((hi' - lo')*te.size) (fun q=>vs.getD (lo'*te.size+q) undef) (fun q hq=> ?_)]
      have hpos2:0<hi' - lo':=by
       rcases Nat.eq_zero_or_pos (hi' - lo') with h0|h0
       ·rw [h0] at hq;simp at hq
       ·exact h0
      rw [hoff' (by omega),cy rfl,cell_of_row w b _ vs el _ hb]
      exact hvg q hq
     let ys:=xs.take hi++(xs.drop lo').take (hi' - lo')++xs.drop (hi+(hi' - lo'))
     have hyl:ys.length=xs.length:=by simp [ys];omega
     have hyg: ∀(i:Nat),ys[i]? =if i<hi then xs[i]? else if i<hi+(hi' - lo') then xs[lo'+(i - hi)]? else xs[i]? :=by
      intro i
      simp only [ys]
      by_cases c1:i<hi
      ·rw [if_pos c1,List.append_assoc,List.getElem?_append_left (by simp;omega),List.getElem?_take_of_lt c1]
      ·rw [if_neg c1]
       by_cases c2:i<hi+(hi' - lo')
       ·rw [if_pos c2,List.getElem?_append_left (by simp;omega),List.getElem?_append_right (by simp;omega)]
        have e1:(xs.take hi).length=hi:=by simp;omega
        rw [e1,List.getElem?_take_of_lt (by omega),List.getElem?_drop]
       ·rw [if_neg c2,List.getElem?_append_right (by simp;omega),List.getElem?_drop]
        congr 1
        simp;omega
     have hone: ∀u∈us,u.oneCell'=true:=by
      intro u hu
      obtain ⟨q,hq,rfl⟩:=List.getElem_of_mem hu
      rw [husl] at hq
      have h1:=husg q hq
      rw [List.getElem?_eq_getElem (by rw [husl];exact hq)] at h1
      injection h1 with h1
      rw [h1]
      have hszp:0<te.size:=by
       rcases Nat.eq_zero_or_pos te.size with h0|h0
       ·rw [h0] at hq;simp at hq
       ·exact h0
      have hi2:q / te.size<hi' - lo':=by rw [Nat.div_lt_iff_lt_mul hszp];exact hq
      have hj2:q%te.size<te.size:=Nat.mod_lt _ hszp
      have hx:lo'+q / te.size<xs.length:=by omega
      obtain ⟨hl3,ho3⟩:=hsz _ _ (List.getElem?_eq_getElem hx)
      obtain ⟨y,hy,hyr⟩:=hrep _ _ (q%te.size) _ (List.getElem?_eq_getElem hx) (List.getElem?_eq_getElem (by rw [hl3];exact hj2))
      have e1:(lo'+q / te.size)*te.size+q%te.size=lo'*te.size+q:=by rw [Nat.add_mul,Nat.add_assoc,Nat.div_add_mod']
      rw [e1,hvg q hq] at hy
      injection hy with hy
      rw [hy]
      exact one_value (List.all_eq_true.1 ho3 _ (List.getElem_mem _)) hyr
     obtain ⟨w',hst,L,M'⟩:=M.pokeRow (P:=P) (ys:=ys) ho (by rw [←hm];exact hv) hb hvs hcap hmx (us:=us) (p:=hi*te.size) (by
      rw [husl,←Nat.add_mul];exact hbound _ hle) hone hyl (fun i cs hi2=>by
      rw [hyg] at hi2
      split at hi2
      ·exact hsz _ _ hi2
      ·split at hi2
       ·exact hsz _ _ hi2
       ·exact hsz _ _ hi2) (fun i cs j s hi2 hj=>by
      rw [hyg] at hi2
      have hjs:j<te.size:=by
       have:=(List.getElem?_eq_some_iff.1 hj).1
       have hl:cs.length=te.size:=by
        split at hi2
        ·exact (hsz _ _ hi2).1
        ·split at hi2
         ·exact (hsz _ _ hi2).1
         ·exact (hsz _ _ hi2).1
       omega
      rw [husl]
      split at hi2
      ·rename_i c1
       obtain ⟨y,hy,hyr⟩:=hrep _ _ _ _ hi2 hj
       refine ⟨y,?_,hyr⟩
       rw [if_neg (by have:=idx_lt c1 hjs;omega)]
       exact hy
      ·rename_i c1
       split at hi2
       ·rename_i c2
        obtain ⟨y,hy,hyr⟩:=hrep _ _ _ _ hi2 hj
        refine ⟨y,?_,hyr⟩
        have e0:i*te.size=hi*te.size+(i - hi)*te.size:=by rw [←Nat.add_mul];congr 1;omega
        have e1:=idx_lt (i:=i - hi) (n:=hi' - lo') (by omega) hjs
        rw [if_pos (by omega),show i*te.size+j - hi*te.size=(i - hi)*te.size+j by omega,husg _ e1]
        rw [Nat.add_mul] at hy
        rw [←hvg _ e1,←Nat.add_assoc]
        exact hy
       ·rename_i c2
        obtain ⟨y,hy,hyr⟩:=hrep _ _ _ _ hi2 hj
        refine ⟨y,?_,hyr⟩
        have e0:(hi+(hi' - lo'))*te.size≤i*te.size:=Nat.mul_le_mul_right _ (by omega)
        rw [Nat.add_mul] at e0
        rw [if_neg (by omega)]
        exact hy)
     refine ⟨.slice (some ⟨b,0,none⟩) (hi+(hi' - lo')) c,w',?_,L,M',?_⟩
     ·simp only [Nat.sub_zero]
      have hc:hi+(hi' - lo')≤c:=by omega
      have hadd:(⟨b,0,none⟩:Addr).add (hi*te.size)=⟨b,hi*te.size,none⟩:=by rw [cy rfl,Nat.zero_add]
      simp [Builtin.append_,run_underlying hde,ge.sizeOf w,Builtin.lenOf,hc,Builtin.firstCells,hload,hadd,hst]
     ·have:=ch.vw (w:=w') (F:=F) (e:=e) (o:=o) (n:=n) (sz:=te.size) (lo:=0) (hi:=hi+(hi' - lo')) (off:=0) hlt hn2 hv (Nat.zero_le _) (by omega) hpos (fun _=>by simp)
      simpa using this
theorem zero_nrm {t:TypeId} {ti:TI} (g:aq P t ti) {z:Value} (hz:z.cells=ti.zero.toArray):z.cells.size=ti.size∧ ∀(j:Nat) s,(ti.zero.map nrm)[j]? =some s→ch w F Env.nil s (z.cells.getD j undef):=by
 rw [hz]
 refine ⟨by simp [g.zlen],fun j s hj=> ?_⟩
 rw [List.getElem?_map] at hj
 cases hv:ti.zero[j]? with
 |none=>rw [hv] at hj;cases hj
 |some y=>
  rw [hv] at hj
  simp at hj
  subst hj
  rw [Array.getD_eq_getD_getElem?,List.getElem?_toArray,hv]
  exact nrm_rep y
theorem clear_sound (M:Mem C H w F e) {t el:TypeId} {te:TI} (hde:P.underlying t=some (.slice el)) (ge:aq P el te) (ty:TypeId) {o n:Nat} {xs:List (List AV)} (ho:H[o]? =some (.row el te.size xs)) {lo hi:Nat} {X:Value}
 (hX:ch w F e (.vw o n te.size lo hi) X) (hn:n=xs.length) (hz1:ones (te.zero.map nrm)=true):
 ∃w',(Builtin.clear_ #[t] ty #[X]).run P w= .ok (.tuple #[]) w'∧bS w F w' F∧Mem C (H.set o (.row el te.size (xs.take lo++List.replicate (hi - lo) (te.zero.map nrm)++xs.drop hi))) w' F e:=by
 obtain ⟨hrl,_⟩:=M.heap.ob o _ ho
 cases hX with
 |vwold _ hn2=>omega
 | @vw _ _ _ _ _ _ b m c off hlt hn2 hv hle1 hhi1 hpos hoff=>
   obtain ⟨hm,hsz,vs,hb,hvs,hcap,hmx,hrep⟩:=row_block M ho hv
   by_cases h0:hi - lo=0
   ·have hhl:hi=lo:=by omega
    subst hhl
    refine ⟨w,?_,bS.refl w F,?_⟩
    ·rw [Nat.sub_self]
     simp [Builtin.clear_,run_underlying hde w]
    ·rw [Nat.sub_self,List.replicate_zero,List.append_nil,List.take_append_drop]
     have:H.set o (.row el te.size xs)=H:=by
      apply List.ext_getElem?
      intro i
      rw [List.getElem?_set]
      split
      ·rename_i hh;subst hh
       rw [if_pos (List.getElem?_eq_some_iff.1 ho).1,ho]
      ·rfl
     rw [this];exact M
   ·obtain ⟨z,hz,hzc⟩:=ge.zeroValue w
    obtain ⟨hzs,hzr⟩:=zero_nrm (w:=w) (F:=F) ge hzc
    have hoff':=hoff (by omega)
    subst hoff'
    have hszp:0<te.size∨te.size=0:=by omega
    let us:List Value:=(Builtin.zeroCells z.cells (hi - lo)).toList
    have husl:us.length=(hi - lo)*te.size:=by simp [us,Builtin.zeroCells,hzs]
    have husg: ∀(i j:Nat),i<hi - lo→j<te.size→us[i*te.size+j]? =some (z.cells.getD j undef):=by
     intro i j hi2 hj2
     have h3:=idx_lt hi2 hj2
     simp only [us,Builtin.zeroCells,hzs]
     rw [Array.getElem?_toList,Array.getElem?_map,Array.getElem?_range,if_pos h3]
     simp only [Option.map_some]
     have e2:(i*te.size+j) %te.size=j:=by rw [Nat.mul_comm,Nat.mul_add_mod,Nat.mod_eq_of_lt hj2]
     rw [e2]
     congr 1
     rw [Array.getD_eq_getD_getElem?,Array.getElem?_eq_getElem (by omega)]
     rw [getElem!_pos z.cells j (by omega)]
     rfl
    have hbound: ∀i,i≤xs.length→i*te.size≤vs.size:=fun i h=>by rw [hvs];exact Nat.mul_le_mul_right _ (by omega)
    let ys:=xs.take lo++List.replicate (hi - lo) (te.zero.map nrm)++xs.drop hi
    have hyl:ys.length=xs.length:=by simp [ys];omega
    have hyg: ∀(i:Nat),ys[i]? =if i<lo then xs[i]? else if i<hi then some (te.zero.map nrm) else xs[i]? :=by
     intro i
     simp only [ys]
     by_cases c1:i<lo
     ·rw [if_pos c1,List.append_assoc,List.getElem?_append_left (by simp;omega),List.getElem?_take_of_lt c1]
     ·rw [if_neg c1]
      by_cases c2:i<hi
      ·have e1:(xs.take lo).length=lo:=by simp;omega
       rw [if_pos c2,List.getElem?_append_left (by simp;omega),List.getElem?_append_right (by omega),e1,List.getElem?_replicate,if_pos (by omega)]
      ·rw [if_neg c2,List.getElem?_append_right (by simp;omega),List.getElem?_drop]
       congr 1
       simp;omega
    have hzl:(te.zero.map nrm).length=te.size:=by simp [ge.zlen]
    have hone: ∀u∈us,u.oneCell'=true:=by
     intro u hu
     obtain ⟨q,hq,rfl⟩:=List.getElem_of_mem hu
     rw [husl] at hq
     have hszp:0<te.size:=by
      rcases Nat.eq_zero_or_pos te.size with h0|h0
      ·rw [h0] at hq;simp at hq
      ·exact h0
     have hi2:q / te.size<hi - lo:=by rw [Nat.div_lt_iff_lt_mul hszp];exact hq
     have hj2:q%te.size<te.size:=Nat.mod_lt _ hszp
     have h1:=husg _ _ hi2 hj2
     rw [Nat.div_add_mod',List.getElem?_eq_getElem (by rw [husl];exact hq)] at h1
     injection h1 with h1
     rw [h1]
     exact one_value (List.all_eq_true.1 hz1 _ (List.getElem_mem (by rw [hzl];exact hj2))) (hzr _ _ (List.getElem?_eq_getElem (by rw [hzl];exact hj2)))
    obtain ⟨w',hst,L,M'⟩:=M.pokeRow (P:=P) (ys:=ys) ho (by rw [←hm];exact hv) hb hvs hcap hmx (us:=us) (p:=lo*te.size) (by
     rw [husl,←Nat.add_mul];exact hbound _ (by omega)) hone hyl (fun i cs hi2=>by
     rw [hyg] at hi2
     split at hi2
     ·exact hsz _ _ hi2
     ·split at hi2
      ·injection hi2 with hi2;subst hi2;exact ⟨hzl,hz1⟩
      ·exact hsz _ _ hi2) (fun i cs j s hi2 hj=>by
     rw [hyg] at hi2
     have hjs:j<te.size:=by
      have:=(List.getElem?_eq_some_iff.1 hj).1
      have hl:cs.length=te.size:=by
       split at hi2
       ·exact (hsz _ _ hi2).1
       ·split at hi2
        ·injection hi2 with hi2;subst hi2;exact hzl
        ·exact (hsz _ _ hi2).1
      omega
     rw [husl]
     split at hi2
     ·rename_i c1
      obtain ⟨y,hy,hyr⟩:=hrep _ _ _ _ hi2 hj
      refine ⟨y,?_,hyr⟩
      rw [if_neg (by have:=idx_lt c1 hjs;omega)]
      exact hy
     ·rename_i c1
      split at hi2
      ·rename_i c2
       injection hi2 with hi2
       subst hi2
       have e0:i*te.size=lo*te.size+(i - lo)*te.size:=by rw [←Nat.add_mul];congr 1;omega
       have e1:=idx_lt (i:=i - lo) (n:=hi - lo) (by omega) hjs
       refine ⟨_,?_,hzr j s hj⟩
       rw [if_pos (by omega),show i*te.size+j - lo*te.size=(i - lo)*te.size+j by omega]
       exact husg _ _ (by omega) hjs
      ·rename_i c2
       obtain ⟨y,hy,hyr⟩:=hrep _ _ _ _ hi2 hj
       refine ⟨y,?_,hyr⟩
       have e0:(lo+(hi - lo))*te.size≤i*te.size:=Nat.mul_le_mul_right _ (by omega)
       rw [Nat.add_mul] at e0
       rw [if_neg (by omega)]
       exact hy)
    refine ⟨w',?_,L,M'⟩
    obtain ⟨k,hk⟩: ∃k,hi - lo=k+1:=⟨hi - lo - 1,by omega⟩
    simp only [us,hk] at hst
    simp only [Builtin.clear_,hk]
    simp [run_underlying hde w,hz,hst]
theorem append_goes (hG:TyOk P G.tys) (h:Sat C S a w F e) {o:Oper} {c:Call} {T:TypeId} {A X:Operand} (ho:o.op= .call c) (hc:c.callee= .builtin .append) (hca:c.args.toList=[A,X]) (hct:c.argTypes.toList=[T,T]) {K:St→Prop} {Q:Exit→Act→World→Prop}
 (hd:S.okD o.dst=true) (hs:appendS G S T (S.ev A) (S.ev X) fun r S'=>K (S'.put o.dst r)):Goes P C o a w K Q:=by
 have hA:=h.here.ev A
 have hX:=h.here.ev X
 unfold appendS at hs
 simp only [Re_eq] at hs
 split at hs
 case h_2=>exact hs.elim
 rename_i tl htl
 split at hs
 case h_2=>exact hs.elim
 rename_i el hu
 split at hs
 case h_2=>exact hs.elim
 rename_i te hte
 have hh:=hs.elim
 clear hs
 obtain ⟨hzb,hs⟩:=hh
 simp only [Bool.and_eq_true] at hzb
 have hz:0<te.size:=Nat.le_of_ble_eq_true hzb.1
 have hb0:0<te.bytes:=Nat.le_of_ble_eq_true hzb.2
 have hde:=(hG.get htl).slice hu
 have ge:=hG.get hte
 have hcall: ∀(v:Value) (w':World),(Builtin.append_ #[T,T] o.type #[a.eval A,a.eval X]).run P w= .ok v w'→(execOp a.eval o).run P w= .ok (.value v) w':=by
  intro v w' hr
  have e1:c.args= #[A,X]:=by cases hcc:c.args;simp_all
  have e2:c.argTypes= #[T,T]:=by cases hcc:c.argTypes;simp_all
  simp [execOp,ho,resolve,hc,e1,e2,invoke,builtin,hr]
 split at hs
 ·rename_i ob n hev
  rw [hev] at hA
  split at hs
  case h_2=>exact hs.elim
  rename_i el' sz xs hob
  have hh:=hs.elim
  clear hs
  obtain ⟨hq,⟨hn,hs⟩⟩:=hh
  simp only [Bool.and_eq_true] at hq
  obtain rfl:=Nat.eq_of_beq_eq_true hq.1
  obtain rfl:=Nat.eq_of_beq_eq_true hq.2
  obtain ⟨ys,⟨hbd,hK⟩,hsrc⟩:=src_sound h hX hs
  obtain ⟨hrl,hown⟩:=h.mem.heap.ob ob _ hob
  have hv:a.eval A=e.rowv ob:=by
   generalize a.eval A=AA at hA
   cases hA with
   |row hl hn' hv=>exact hv.symm
   |rowold hl hn'=>omega
  obtain ⟨v',w',hr,h1,h2,h3,h4⟩:=append_sound hde ge hz o.type (x:=a.eval X) hown hsrc hbd hb0 h.mem.bound
  have hOwn: ∀b,(e.rowv ob).ownBlock=some b→ap e S.heap ob b:=by
   intro b hb
   unfold ap
   rw [hob]
   cases hrv:e.rowv ob with
   |slice A' m cc=>
    rw [hrv] at hb
    cases A' with
    |none=>cases hb
    |some ad=>
     simp only [Value.ownBlock,Option.some.injEq] at hb
     rcases hown.2 with ⟨_,hv'⟩|⟨b',c',vs,hv',_⟩
     ·rw [hrv] at hv';cases hv'
     ·rw [hrv] at hv'
      injection hv' with hv' h5 h6
      injection hv' with hv'
      subst hv'
      simp at hb
      subst hb
      exact ⟨_,_,rfl⟩
   |_=>rw [hrv] at hb;cases hb
  have T':bV w w' (ap e S.heap ob):=⟨h2.os,h2.tape,h2.output,h2.size,fun b hb hno=>h2.block b hb (fun hk=>hno (hOwn b hk.symm))⟩
  have M':=h.mem.growRow (x:=v') (ys:=xs++ys) hob T' h1 (fun b hb=>by
   rcases h3 with h3|h3
   ·rw [h3] at hb;exact .inl (hOwn b hb)
   ·rw [h3] at hb;injection hb with hb;exact .inr (by omega)) (by
    by_cases hy:ys=[]
    ·exact .inr ⟨by simp [hy],h4 hy⟩
    ·left;have:=List.length_pos_iff.2 hy;simp;omega)
  refine goes_value (hcall v' w' (by rw [hv];exact hr)) hK (h.next (h.mem.later T') ?_ M' ?_ hd)
  ·refine ⟨Nat.le_refl _,fun _ _=>rfl,fun o' ho'=> ?_⟩
   by_cases hno:o'=ob
   ·subst hno
    simp only [Env.setRow,ba]
    by_cases hy:ys=[]
    ·exact .inr ⟨by simp [hy,hrl],h4 hy⟩
    ·left;have:=List.length_pos_iff.2 hy;rw [hrl];simp;omega
   ·exact .inr ⟨cj _ _ _ hno,cj _ _ _ hno⟩
  ·have hlt:ob<(e.setRow ob (xs++ys).length v').len:=by
    show ob<e.len
    rw [h.mem.heap.len];exact (List.getElem?_eq_some_iff.1 hob).1
   have hsl: ∃A' m cc,v'= .slice A' m cc:=by
    rcases h1.2 with ⟨_,hv'⟩|⟨b,cc,vs,hv',_⟩
    ·exact ⟨_,_,_,hv'⟩
    ·exact ⟨_,_,_,hv'⟩
   obtain ⟨A',m,cc,hv'⟩:=hsl
   have:(e.setRow ob (xs++ys).length v').rowv ob= .slice A' m cc:=by simp only [Env.setRow,ba];exact hv'
   rw [hv'] at this hlt⊢
   exact .row hlt (ba _ _ _).symm this
 ·rename_i ob n sz lo hi hev
  split at hs
  case h_2=>exact hs.elim
  rename_i o' n' sz' lo' hi' el' sz2 xs hevx hob
  have hh:=hs.elim
  clear hs
  obtain ⟨hq,⟨⟨h1,h2,h3,h4⟩,hK⟩⟩:=hh
  simp only [Bool.and_eq_true] at hq
  obtain ⟨⟨⟨⟨q1,q2⟩,q3⟩,q4⟩,q5⟩:=hq
  have q1:=Nat.eq_of_beq_eq_true q1
  have q2:=Nat.eq_of_beq_eq_true q2
  have q3:=Nat.eq_of_beq_eq_true q3
  have q4:=Nat.eq_of_beq_eq_true q4
  have q5:=Nat.eq_of_beq_eq_true q5
  subst q1 q2 q3 q4 q5 h1
  rw [hev] at hA
  rw [hevx] at hX
  obtain ⟨v,w',hr,L,M',hrep⟩:=move_sound (P:=P) h.mem hde ge o.type hob hA (by rw [h2,←h3];exact hX) h2 h4
  exact goes_value (hcall v w' hr) hK (h.next L (aH.refl e) M' hrep hd)
 ·rename_i hev
  rw [hev] at hA
  have hv:=hA.v_inv
  obtain ⟨ys,⟨hbd,hK⟩,hsrc⟩:=src_sound h hX hs
  have hnil:cL w F el te.size [] (.slice none 0 0):=⟨fun i cs hi=>by simp at hi,.inl ⟨rfl,rfl⟩⟩
  obtain ⟨v',w',hr,h1,h2,h3,h4⟩:=append_sound hde ge hz o.type (x:=a.eval X) hnil hsrc (by simpa using hbd) hb0 h.mem.bound
  have T':bV w w' (fun _=>False):=⟨h2.os,h2.tape,h2.output,h2.size,fun b hb hno=>h2.block b hb (by simp [Value.ownBlock])⟩
  have M':=h.mem.pushRow (x:=v') (xs:=ys) T' (by simpa using h1) (fun b hb=>by
   rcases h3 with h3|h3
   ·rw [h3] at hb;cases hb
   ·rw [h3] at hb;injection hb with hb;omega)
  refine goes_value (hcall v' w' (by rw [hv];exact hr)) hK (h.next (h.mem.later (T'.mono (own':=ap e S.heap 0) fun _ h=>h.elim)) (aH.pushRow e _ _) M' ?_ hd)
  have hlt:S.heap.length<(e.pushRow ys.length v').len:=by show S.heap.length<e.len+1;rw [h.mem.heap.len];omega
  have hsl: ∃A' m cc,v'= .slice A' m cc:=by
   rcases h1.2 with ⟨_,hv'⟩|⟨b,cc,vs,hv',_⟩
   ·exact ⟨_,_,_,hv'⟩
   ·exact ⟨_,_,_,hv'⟩
  obtain ⟨A',m,cc,hv'⟩:=hsl
  have h5:(e.pushRow ys.length v').rowv S.heap.length= .slice A' m cc:=by simp only [Env.pushRow];rw [←h.mem.heap.len,ba];exact hv'
  have h6:ys.length=(e.pushRow ys.length v').rlen S.heap.length:=by simp only [Env.pushRow];rw [←h.mem.heap.len,ba]
  rw [hv'] at h5 h6 hlt⊢
  exact .row hlt h6 h5
 ·exact hs.elim
theorem clear_goes (hG:TyOk P G.tys) (h:Sat C S a w F e) {o:Oper} {c:Call} {T:TypeId} {X:Operand} (ho:o.op= .call c) (hc:c.callee= .builtin .clear) (hca:c.args.toList=[X]) (hct:c.argTypes.toList=[T]) {K:St→Prop} {Q:Exit→Act→World→Prop}
 (hd:S.okD o.dst=true) (hs:clearS G S T (S.ev X) fun S'=>K (S'.put o.dst .dead)):Goes P C o a w K Q:=by
 have hX:=h.here.ev X
 unfold clearS at hs
 simp only [Re_eq] at hs
 split at hs
 case h_2=>exact hs.elim
 rename_i tl htl
 split at hs
 case h_2=>exact hs.elim
 rename_i el hu
 split at hs
 case h_2=>exact hs.elim
 rename_i te ob n sz lo hi hte hev
 split at hs
 case h_2=>exact hs.elim
 rename_i el' sz' xs hob
 have hh:=hs.elim
 clear hs
 obtain ⟨hq,⟨hn,hK⟩⟩:=hh
 simp only [Bool.and_eq_true] at hq
 obtain ⟨⟨⟨q1,q2⟩,q3⟩,q4⟩:=hq
 have q1:=Nat.eq_of_beq_eq_true q1
 have q2:=Nat.eq_of_beq_eq_true q2
 have q3:=Nat.eq_of_beq_eq_true q3
 subst q1 q2 q3
 rw [hev] at hX
 obtain ⟨w',hr,L,M'⟩:=clear_sound (P:=P) h.mem ((hG.get htl).slice hu) (hG.get hte) o.type hob hX hn q4
 have hrun:(execOp a.eval o).run P w= .ok (.value (.tuple #[])) w':=by
  have e1:c.args= #[X]:=by cases hcc:c.args;simp_all
  have e2:c.argTypes= #[T]:=by cases hcc:c.argTypes;simp_all
  simp [execOp,ho,resolve,hc,e1,e2,invoke,builtin,hr]
 exact goes_value hrun hK (h.next L (aH.refl e) M' .dead hd)
end
end Go.Ab
namespace Go.Ab
set_option linter.unusedVariables false
set_option linter.unusedSimpArgs false
section
variable {P:Program} {G:Gm} {C:Ctx} {S:St} {a:Act} {H H':List Ob} {w w':World} {F F':Nat→Prop} {e e':Env}
theorem Mem.letgo (M:Mem C H w F e) (o:Nat):Mem C (H.set o .gone) w F e:=by
 have hold: ∀o' b,ap e (H.set o .gone) o' b→ap e H o' b:=by
  intro o' b h
  unfold ap at h⊢
  rw [List.getElem?_set] at h
  by_cases hn:o=o'
  ·rw [if_pos hn] at h
   by_cases hl:o<H.length
   ·rw [if_pos (by first|exact hl|omega)] at h;exact h.elim
   ·rw [if_neg (by first|exact hl|omega)] at h;exact h.elim
  ·rw [if_neg hn] at h;exact h
 refine ⟨⟨by simp [M.heap.len],fun o' x hx=> ?_,fun o1 o2 b h1 h2=>M.heap.one _ _ _ (hold _ _ h1) (hold _ _ h2)⟩,M.mod,fun o' b hb=>M.ours _ _ (hold _ _ hb),M.sub,M.bound,M.fresh,M.env,M.g⟩
 rw [List.getElem?_set] at hx
 by_cases hn:o=o'
 ·rw [if_pos hn] at hx
  by_cases hl:o<H.length
  ·rw [if_pos (by first|exact hl|omega)] at hx;injection hx with hx;subst hx;trivial
  ·rw [if_neg (by first|exact hl|omega)] at hx;cases hx
 ·rw [if_neg hn] at hx;exact M.heap.ob o' x hx
theorem Mem.aside (M:Mem C H w F e) {own:Nat→Prop} (T:bV w w' own) (hF: ∀b,own b→ ¬F b) (ho: ∀b,own b→ ¬ ∃o,ap e H o b) (hc: ∀b,own b→C.w0.heap.size≤b∨C.own0 b) (hs: ∀b,F b→F' b) (hn: ∀b,F' b→F b∨w.heap.size≤b∨own b) (hb: ∀b,F' b→b<w'.heap.size):
 Mem C H w' F' e∧bS w F w' F':=by
 have L:bS w F w' F':=⟨hs,fun b hb=>T.block b (M.bound b hb) (fun h=>hF b h hb)⟩
 refine ⟨⟨⟨M.heap.len,fun o x hx=> ?_,M.heap.one⟩,⟨T.os.trans M.mod.os,T.tape.trans M.mod.tape,T.output.trans M.mod.output,Nat.le_trans M.mod.size T.size,fun b hb hn=> ?_⟩,M.ours,fun b hb=>hs b (M.sub b hb),hb,fun b hb=> ?_,M.env,M.g⟩,L⟩
 ·have hlt:o<e.len:=by rw [M.heap.len];exact (List.getElem?_eq_some_iff.1 hx).1
  refine ObRep.keep hx hlt (M.heap.ob o x hx) L (fun b hb=> ?_) (aH.refl e) rfl rfl (fun b hb=>T.block b (hb.lt M.heap) (fun h=>ho b h ⟨o,hb⟩))
  rcases hn b hb with h|h|h
  ·exact .inl h
  ·exact .inr fun hown=>by have:=hown.lt M.heap;omega
  ·exact .inr fun hown=>ho b h ⟨o,hown⟩
 ·rw [T.block b (Nat.lt_of_lt_of_le hb M.mod.size) (fun h=>by
   rcases hc b h with k|k
   ·omega
   ·exact hn k)]
  exact M.mod.block b hb hn
 ·rcases hn b hb with h|h|h
  ·exact M.fresh b h
  ·exact .inr (.inl (Nat.le_trans M.mod.size h))
  ·exact .inr (hc b h)
theorem own_block {o el sz:Nat} {xs:List (List AV)} (ho:H[o]? =some (.row el sz xs)) (M:Mem C H w F e) {b:Nat} (hb:(e.rowv o).ownBlock=some b):ap e H o b:=by
 obtain ⟨hrl,hown⟩:=M.heap.ob o _ ho
 unfold ap
 rw [ho]
 rcases hown.2 with ⟨_,hv'⟩|⟨b',c',vs,hv',_⟩
 ·rw [hv'] at hb;cases hb
 ·rw [hv'] at hb⊢
  simp only [Value.ownBlock,Option.some.injEq] at hb
  subst hb
  exact ⟨_,_,rfl⟩
theorem Mem.adopt (M:Mem C H w F e) {el sz:Nat} {xs:List (List AV)} {x:Value} (hr:cL w F el sz xs x) (hno: ∀b,x.ownBlock=some b→ ¬ ∃o,ap e H o b) (hc: ∀b,x.ownBlock=some b→C.w0.heap.size≤b∨C.own0 b):
 Mem C (H++[.row el sz xs]) w F (e.pushRow xs.length x)∧ch w F (e.pushRow xs.length x) (.row H.length xs.length) x:=by
 have hlen:=M.heap.len
 have h1:(e.pushRow xs.length x).rlen H.length=xs.length:=by simp only [Env.pushRow];rw [←hlen];exact ba _ _ _
 have h2:(e.pushRow xs.length x).rowv H.length=x:=by simp only [Env.pushRow];rw [←hlen];exact ba _ _ _
 have E:=aH.pushRow e xs.length x
 have L:=bS.refl w F
 have hold: ∀o' b,o'≠H.length→(ap (e.pushRow xs.length x) (H++[.row el sz xs]) o' b↔ap e H o' b):=by
  intro o' b hn
  unfold ap
  rw [getElem?_push_old _ hn]
  cases hcs:H[o']? with
  |none=>simp
  |some y=>
   have hlt:o'<e.len:=by rw [hlen];exact (List.getElem?_eq_some_iff.1 hcs).1
   have e1:(e.pushRow xs.length x).rowv o'=e.rowv o':=cj _ _ _ (by omega)
   cases y<;>simp [Env.pushRow] at* <;>simp_all
 have hnew: ∀b,ap (e.pushRow xs.length x) (H++[.row el sz xs]) H.length b→x.ownBlock=some b:=by
  intro b hb
  unfold ap at hb
  simp at hb
  obtain ⟨n,c,hv⟩:=hb
  rw [h2] at hv
  rw [hv];rfl
 refine ⟨⟨⟨by simp [Env.pushRow,hlen],fun o' y hy=> ?_,fun o1 o2 b k1 k2=> ?_⟩,M.mod,fun o' b hb=> ?_,M.sub,M.bound,M.fresh,M.env.trans E,M.g⟩,?_⟩
 ·by_cases hn:o'=H.length
  ·subst hn
   simp at hy
   subst hy
   exact ⟨h1,by rw [h2];exact hr⟩
  ·rw [getElem?_push_old _ hn] at hy
   have hlt:o'<e.len:=by rw [hlen];exact (List.getElem?_eq_some_iff.1 hy).1
   exact ObRep.keep hy hlt (M.heap.ob o' y hy) L (fun b hb=>.inl hb) E (cj _ _ _ (by omega)) (cj _ _ _ (by omega)) (fun b hb=>rfl)
 ·by_cases n1:o1=H.length<;>by_cases n2:o2=H.length
  ·rw [n1,n2]
  ·subst n1;exact absurd ⟨o2,(hold o2 b n2).1 k2⟩ (hno b (hnew b k1))
  ·subst n2;exact absurd ⟨o1,(hold o1 b n1).1 k1⟩ (hno b (hnew b k2))
  ·exact M.heap.one _ _ _ ((hold o1 b n1).1 k1) ((hold o2 b n2).1 k2)
 ·by_cases hn:o'=H.length
  ·subst hn;exact hc b (hnew b hb)
  ·exact M.ours _ _ ((hold o' b hn).1 hb)
 ·have hlt:H.length<(e.pushRow xs.length x).len:=by show H.length<e.len+1;omega
  have hsl: ∃A' m cc,x= .slice A' m cc:=by
   rcases hr.2 with ⟨_,hv'⟩|⟨b,cc,vs,hv',_⟩
   ·exact ⟨_,_,_,hv'⟩
   ·exact ⟨_,_,_,hv'⟩
  obtain ⟨A',m,cc,hv'⟩:=hsl
  rw [hv'] at h1 h2 hlt⊢
  exact .row hlt h1.symm h2
theorem frzC_length (H:List Ob) (a:AV):(frzC H a).length=H.length:=((Froze.refl H).step a).1
theorem frzL_length: ∀(cs:List AV) (H:List Ob),(frzL H cs).length=H.length
 |[],H=>rfl
 |a::r,H=>by simp only [frzL];rw [frzL_length r,frzC_length]
theorem rowsV_sound {sz:Nat}: ∀(parts:List (Nat×Operand)) (i:Nat) {H:List Ob} {F:Nat→Prop} (M:Mem C H w F e) (hr: ∀t,ch w F e (S.regs t) (a.tmps.getD t undef)) {k:List Ob→List (List AV)→Prop} (h:rowsV S sz H i parts k),
 ∃H' xs F',k H' xs∧bS w F w F'∧Mem C H' w F' e∧H'.length=H.length∧xs.length=parts.length∧(∀(j:Nat) cs,xs[j]? =some cs→cs.length=sz∧ones cs=true)∧
  ∀(cells:Array Value),(i+parts.length)*sz≤cells.size→ ∃us,Instr.fill (fun i=>some (i*sz,sz)) cells (parts.map fun p=>(p.1,a.eval p.2))=some us∧us.size=cells.size∧(∀q,q<i*sz→us[q]? =cells[q]?)∧
   ∀(j:Nat) (cs:List AV) (m:Nat) s,xs[j]? =some cs→cs[m]? =some s→ ∃y,us[(i+j)*sz+m]? =some y∧ch w F' Env.nil s y
 |[],i,H,F,M,hr,k,h=>⟨H,[],F,h,bS.refl w F,M,rfl,rfl,fun j cs hj=>by simp at hj,fun cells hc=>⟨cells,rfl,rfl,fun _ _=>rfl,fun j cs m s hj=>by simp at hj⟩⟩
 |(j0,x)::r,i,H,F,M,hr,k,h=>by
  simp only [rowsV] at h
  have hh:=h.eqn
  clear h
  obtain ⟨rfl,h⟩:=hh
  split at h
  case h_2=>exact h.elim
  rename_i ys hys
  have hh:=h.elim
  clear h
  obtain ⟨hl1,h⟩:=hh
  simp only [Bool.and_eq_true] at hl1
  have hl:=Nat.eq_of_beq_eq_true hl1.1
  have h1:=hl1.2
  have hev:ch w F e (S.ev x) (a.eval x):=by
   cases x with
   |tmp t=>exact hr t
   |const v=>exact rep_ofConst v
   |global g=>exact .dead
   |func f=>exact .fn rfl rfl (fun j s h=>by simp at h) (fun j s h=>by simp at h)
  have hc:=cellsB_sound hys hev
  obtain ⟨ys',F1,h2,L1,M1,l1,r1,o1,_⟩:=purL_sound ys (Froze.refl H) M (fun j=>(a.eval x).cells.getD j undef) hc.2 h
  obtain ⟨H',xs,F',h3,L2,M2,l2,l3,l4,hfill⟩:=rowsV_sound r (j0+1) M1 (fun t=>(hr t).mono L1 (aH.refl e)) h2
  refine ⟨H',ys'::xs,F',h3,L1.trans L2,M2,by rw [l2,frzL_length],by simp [l3],fun j cs hj=> ?_,fun cells hcells=> ?_⟩
  ·cases j with
   |zero=>simp at hj;subst hj;exact ⟨by rw [l1];exact hl,by rw [o1];exact h1⟩
   |succ j=>exact l4 j cs (by simpa using hj)
  ·have hsz:(a.eval x).cells.size=sz:=by rw [hc.1];exact hl
   have hin:j0*sz+sz≤cells.size:=by
    rw [←Nat.succ_mul]
    refine Nat.le_trans (Nat.mul_le_mul_right _ ?_) hcells
    simp
   have getF: ∀(us:List Value) (j0:Nat) (v:Array Value) (f q:Nat),f+j0+us.length≤v.size→((us.zipIdx j0).foldl (fun c p=>c.setIfInBounds (f+p.2) p.1) v)[q]? =if f+j0≤q∧q<f+j0+us.length then us[q - (f+j0)]? else v[q]? :=by
    intro us
    induction us with
    |nil=>intro j0 v f q _;simp;omega
    |cons u us ih=>
     intro j0 v f q hq
     simp only [List.zipIdx_cons,List.foldl_cons]
     rw [ih (j0+1) _ f q (by simp at hq⊢;omega)]
     simp only [Array.getElem?_setIfInBounds,List.length_cons] at*
     by_cases c1:q=f+j0
     ·subst c1
      rw [if_neg (by omega),if_pos rfl,if_pos (by omega),if_pos (by omega)]
      simp
     ·by_cases c2:f+(j0+1)≤q∧q<f+(j0+1)+us.length
      ·rw [if_pos c2,if_pos (by omega)]
       have:q - (f+j0)=(q - (f+(j0+1)))+1:=by omega
       rw [this];simp
      ·rw [if_neg c2,if_neg (by omega),if_neg (by omega)]
   have szF: ∀(l:List (Value×Nat)) (v:Array Value) (f:Nat),(l.foldl (fun c p=>c.setIfInBounds (f+p.2) p.1) v).size=v.size:=by
    intro l
    induction l with
    |nil=>intro v f;rfl
    |cons x l ih=>intro v f;simp only [List.foldl_cons];rw [ih];simp
   let cells1:=((a.eval x).cells.toList.zipIdx 0).foldl (fun c p=>c.setIfInBounds (j0*sz+p.2) p.1) cells
   have hs1:cells1.size=cells.size:=szF _ _ _
   have hg1: ∀q,cells1[q]? =if j0*sz≤q∧q<j0*sz+sz then (a.eval x).cells.toList[q - j0*sz]? else cells[q]? :=by
    intro q
    have:=getF (a.eval x).cells.toList 0 cells (j0*sz) q (by rw [Array.length_toList,hsz];omega)
    simp only [Array.length_toList,hsz,Nat.add_zero] at this
    exact this
   obtain ⟨us,hu,hus,hlow,hrep⟩:=hfill cells1 (by rw [hs1];refine Nat.le_trans (Nat.le_of_eq ?_) hcells;congr 1;simp;omega)
   refine ⟨us,?_,by rw [hus,hs1],fun q hq=> ?_,fun j cs m s hj hm=> ?_⟩
   ·simp only [List.map_cons,Instr.fill]
    rw [if_neg (by simp only [Bool.or_eq_true,decide_eq_true_eq,not_or];constructor<;>omega)]
    rw [←hu,←Array.foldl_toList,Array.toList_zipIdx]
   ·rw [hlow q (by rw [Nat.succ_mul];omega),hg1,if_neg (by omega)]
   ·cases j with
    |zero=>
     simp at hj
     subst hj
     have hmlt:m<sz:=by
      have:=(List.getElem?_eq_some_iff.1 hm).1
      omega
     have hr2:=(r1 m s hm).mono L2 (aH.refl _)
     refine ⟨_,?_,hr2⟩
     rw [Nat.add_zero,hlow _ (by rw [Nat.succ_mul];omega),hg1,if_pos (by omega)]
     have:j0*sz+m - j0*sz=m:=by omega
     rw [this,Array.getElem?_toList]
     exact getElem?_of_getD (by omega)
    |succ j=>
     obtain ⟨y,hy,hyr⟩:=hrep j cs m s (by simpa using hj) hm
     refine ⟨y,?_,hyr⟩
     have:j0+(j+1)=j0+1+j:=by omega
     rw [this];exact hy
theorem buildSlice_goes (hG:TyOk P G.tys) (h:Sat C S a w F e) {o:Oper} {T el:TypeId} {n:Nat} {parts:Array (Nat×Operand)} {tl te:TI} (ho:o.op= .buildSlice T n parts) (ht:ty G.tys T=some tl) (hu:tl.u= .slice el) (hte:ty G.tys el=some te)
 {K:St→Prop} {Q:Exit→Act→World→Prop} (hd:S.okD o.dst=true) (hn:parts.size=n) (hpos:0<te.size) (hbig:n*te.size≤16777216)
 (hs:rowsV S te.size S.heap 0 parts.toList fun H xs=>Re xs fun xs=>K ((S.withHeap (H++[.row el te.size xs])).put o.dst (.row H.length n))):Goes P C o a w K Q:=by
 have hde:=(hG.get ht).slice hu
 have ge:=hG.get hte
 simp only [Re_eq] at hs
 obtain ⟨H',xs,F',hK,L,M,l2,l3,l4,hfill⟩:=rowsV_sound parts.toList 0 h.mem h.regs hs
 have hxn:xs.length=n:=by rw [l3,Array.length_toList,hn]
 obtain ⟨z,hz,hzc⟩:=ge.zeroValue w
 let zero:Array Value:=if n*te.size=0 then #[] else z.cells
 obtain ⟨us,hus,husz,_,hrep⟩:=hfill ((Array.range (n*te.size)).map (zero[· %zero.size]!)) (by simp [hn])
 have hsz2:us.size=n*te.size:=by rw [husz];simp
 have hr:(execOp a.eval o).run P w= .ok (.value (.slice (some ⟨w.heap.size,0,none⟩) n n)) (w.alloc (.cells us el)):=by
  have e2: ¬(n*te.size>2^24):=by simp;omega
  simp only [execOp,ho,Instr.buildSlice,Sem.run_bind,run_underlying hde w,Result.andThen_ok,ge.sizeOf w,if_neg e2]
  have e3:Instr.fill (fun i=>some (i*te.size,te.size)) ((Array.range (n*te.size)).map (zero[· %zero.size]!)) (parts.map fun x=>(x.1,a.eval x.2)).toList=some us:=by
   rw [←hus];simp
  by_cases h0:n*te.size=0
  ·simp only [zero,if_pos h0] at e3
   simp only [if_pos h0,Sem.run_bind,Sem.run_pure,Result.andThen_ok]
   rw [e3]
   rfl
  ·simp only [zero,if_neg h0] at e3
   simp only [if_neg h0,Sem.run_bind,Sem.run_pure,Result.andThen_ok,hz]
   rw [e3]
   rfl
 have hmax:n≤maxLen:=by
  have hb:n*te.size≤16777216:=hbig
  have:n≤n*te.size:=Nat.le_mul_of_pos_right _ hpos
  simp only [maxLen];omega
 have T':bV w (w.alloc (.cells us el)) (fun _=>False):=cl w _ _
 have LL:=M.later (T'.mono (own':=ap e H' 0) fun _ h=>h.elim)
 have hOwn:cL (w.alloc (.cells us el)) F' el te.size xs (.slice (some ⟨w.heap.size,0,none⟩) n n):=by
  refine ⟨l4,.inr ⟨w.heap.size,n,us,by rw [hxn],fun hF=>absurd (M.bound _ hF) (by omega),heap_alloc_new w _,hsz2,by omega,hmax,fun i cs j s hi hj=> ?_⟩⟩
  obtain ⟨y,hy,hyr⟩:=hrep i cs j s hi hj
  rw [Nat.zero_add] at hy
  exact ⟨y,hy,hyr.mono LL (aH.refl _)⟩
 have M':=M.pushRow T' hOwn (fun b hb=>by simp only [Value.ownBlock,Option.some.injEq] at hb;omega)
 refine goes_value hr hK (h.next (L.trans LL) (aH.pushRow e _ _) M' ?_ hd)
 have hlt:H'.length<(e.pushRow xs.length (.slice (some ⟨w.heap.size,0,none⟩) n n)).len:=by show H'.length<e.len+1;rw [M.heap.len];omega
 have h5:(e.pushRow xs.length (.slice (some ⟨w.heap.size,0,none⟩) n n)).rowv H'.length= .slice (some ⟨w.heap.size,0,none⟩) n n:=by simp only [Env.pushRow];rw [←M.heap.len,ba]
 have h6:n=(e.pushRow xs.length (.slice (some ⟨w.heap.size,0,none⟩) n n)).rlen H'.length:=by simp only [Env.pushRow];rw [←M.heap.len,ba];exact hxn.symm
 exact .row hlt h6 h5
end
end Go.Ab
namespace Go.Ab
set_option linter.unusedVariables false
set_option linter.unusedSimpArgs false
section
variable {P:Program} {G:Gm} {C:Ctx} {S:St} {a:Act} {H H':List Ob} {w w':World} {F F':Nat→Prop} {e e':Env}
theorem Froze.trans {H1 H2 H3:List Ob} (h:Froze H1 H2) (k:Froze H2 H3):Froze H1 H3:=by
 refine ⟨k.1.trans h.1,fun o=> ?_⟩
 rcases h.2 o with h1|⟨el,sz,xs,h1,h2⟩<;>rcases k.2 o with k1|⟨el',sz',xs',k1,k2⟩
 ·exact .inl (k1.trans h1)
 ·exact .inr ⟨el',sz',xs',h1▸k1,k2⟩
 ·exact .inr ⟨el,sz,xs,h1,k1.trans h2⟩
 ·rw [h2] at k1;cases k1
theorem frozeL: ∀(cs:List AV) (H:List Ob),Froze H (frzL H cs)
 |[],H=>Froze.refl H
 |a::r,H=>((Froze.refl H).step a).trans (frozeL r _)
theorem frozeA (a:AV) (H:List Ob):Froze H (frzA H a):=by
 unfold frzA
 split
 ·exact frozeL _ H
 ·exact (Froze.refl H).step _
theorem purA_sound {H0:List Ob} (hf:Froze H0 H) (M:Mem C H w F e) {a:AV} {x:Value} (hx:ch w F e a x) {k:AV→Prop} (h:purA H0 a k):
 ∃a' F',k a'∧bS w F w F'∧Mem C (frzA H a) w F' e∧ch w F' Env.nil a' x:=by
 unfold purA at h
 split at h
 ·rename_i cs
  obtain ⟨vs,rfl,h1,h2⟩:=hx.agg_inv
  obtain ⟨cs',F',hk,L,M',l,r,_⟩:=purL_sound cs hf M (fun j=>vs.getD j undef) h2 h
  exact ⟨_,F',hk,L,M',.agg (by rw [l];exact h1) r⟩
 ·rename_i hne
  obtain ⟨a',F',hk,L,M',r,_⟩:=purC_sound hf M hx h
  refine ⟨a',F',hk,L,?_,r⟩
  unfold frzA
  split
  ·exact absurd rfl (hne _)
  ·exact M'
theorem purAs_sound {H0:List Ob}: ∀(az:List AV) {H:List Ob} {F:Nat→Prop} (hf:Froze H0 H) (M:Mem C H w F e) (f:Nat→Value) (hx: ∀(j:Nat) s,az[j]? =some s→ch w F e s (f j)) {k:List AV→Prop} (h:purAs H0 az k),
 ∃az' F',k az'∧bS w F w F'∧Mem C (frzAs H az) w F' e∧az'.length=az.length∧(∀(j:Nat) s,az'[j]? =some s→ch w F' Env.nil s (f j))
 |[],H,F,hf,M,f,hx,k,h=>⟨[],F,h,bS.refl w F,M,rfl,fun j s hj=>by simp at hj⟩
 |a::r,H,F,hf,M,f,hx,k,h=>by
  simp only [purAs] at h
  obtain ⟨a',F1,h1,L1,M1,r1⟩:=purA_sound hf M (hx 0 a rfl) h
  obtain ⟨az',F2,h2,L2,M2,l2,r2⟩:=purAs_sound r (hf.trans (frozeA a H)) M1 (fun j=>f (j+1)) (fun j s hj=>(hx (j+1) s (by simpa using hj)).mono L1 (aH.refl e)) h1
  refine ⟨a'::az',F2,h2,L1.trans L2,M2,by simp [l2],fun j s hj=> ?_⟩
  cases j with
  |zero=>simp at hj;subst hj;exact r1.mono L2 (aH.refl _)
  |succ j=>exact r2 j s (by simpa using hj)
theorem scalar_rep {r:AV} (hs:scalarB r=true) {x:Value} (h:ch w F e r x) {w':World} {F':Nat→Prop} {e':Env}:ch w' F' e' r x:=by
 cases r<;>simp only [scalarB,Bool.false_eq_true] at hs
 case v y=>rw [h.v_inv];exact .v
 case tup vs=>
  obtain ⟨us,rfl,h1,h2⟩:=h.tup_inv
  refine .tup h1 (fun j s hj=> ?_)
  have:=List.all_eq_true.1 hs s (List.mem_of_getElem? hj)
  have h3:=h2 j s hj
  cases s<;>simp only [isV,Bool.false_eq_true] at this
  rw [h3.v_inv];exact .v
theorem call_run {o:Oper} {c:Call} {f:Operand} {g:FuncId} {fs cs:Array Value} (ho:o.op= .call c) (hc:c.callee= .value f) (hf:a.eval f= .func (.func g) fs cs) (hg:Callable P g):
 (execOp a.eval o).run P w= .ok (.enter g (fs++c.args.map a.eval++cs)) w:=by
 simp [execOp,ho,resolve,hc,hf,Deferred.ofValue,invoke,run_callFunc hg]
theorem args_rep (h:Here S a w F e) {first caps:List AV} {fs cs:Array Value} (args:Array Operand) (h1:bA w F e first fs) (h2:bA w F e caps cs):
 bA w F e (first++args.toList.map S.ev++caps) (fs++args.map a.eval++cs):=by
 have hm:bA w F e (args.toList.map S.ev) (args.map a.eval):=by
  refine ⟨by simp,fun j s hj=> ?_⟩
  rw [List.getElem?_map] at hj
  cases hx:args.toList[j]? with
  |none=>rw [hx] at hj;cases hj
  |some x=>
   rw [hx] at hj
   simp at hj
   subst hj
   have hx':args[j]? =some x:=by simpa using hx
   rw [Array.getD_eq_getD_getElem?,Array.getElem?_map,hx']
   exact h.ev x
 have app: ∀ {xs ys:List AV} {us vs:Array Value},bA w F e xs us→bA w F e ys vs→bA w F e (xs++ys) (us++vs):=by
  intro xs ys us vs p q
  refine ⟨by simp [p.1,q.1],fun j s hj=> ?_⟩
  rw [Array.getD_eq_getD_getElem?,Array.getElem?_append]
  rcases Nat.lt_or_ge j xs.length with hlt|hge
  ·rw [List.getElem?_append_left hlt] at hj
   rw [if_pos (by rw [p.1];exact hlt),←Array.getD_eq_getD_getElem?]
   exact p.2 j s hj
  ·rw [List.getElem?_append_right hge] at hj
   rw [if_neg (by rw [p.1];omega),p.1,←Array.getD_eq_getD_getElem?]
   exact q.2 _ s hj
 exact app (app h1 hm) h2
theorem call_goes (h:Sat C S a w F e) {o:Oper} {c:Call} {f:Operand} {g:FuncId} {first caps:List AV} (ho:o.op= .call c) (hc:c.callee= .value f) (hf:S.ev f= .fn (.func g) first caps) {K:St→Prop} {Q:Exit→Act→World→Prop}
 (hd:S.okD o.dst=true) (hs:callS P G S g (first++c.args.toList.map S.ev++caps) fun r S'=>K (S'.put o.dst r)):Goes P C o a w K Q:=by
 have hfr:=h.here.ev f
 rw [hf] at hfr
 generalize hX:a.eval f=X at hfr
 cases hfr with
 | @fn _ _ _ _ fs cs s1 s2 r1 r2=>
   have hargs:=args_rep h.here c.args (first:=first) (caps:=caps) (fs:=fs) (cs:=cs) ⟨s1,r1⟩ ⟨s2,r2⟩
   unfold callS at hs
   split at hs
   ·split at hs
    ·rename_i p hp0
     obtain ⟨az',F1,hp,L1,M1,l1,rr⟩:=purAs_sound _ (Froze.refl S.heap) h.mem (fun j=>(fs++c.args.map a.eval++cs).getD j undef) hargs.2 hs
     have hrun:=call_run (P:=P) (w:=w) (a:=a) ho hc hX hp.call
     unfold Goes Oper.wp
     rw [hrun]
     refine (hp.run w F1 _ M1.gw M1.bound ⟨by rw [l1];exact hargs.1,rr⟩).mono ?_
     rintro en w' ⟨xs,x,F',rfl,hK,hrow,hblk,k1,k2,k3,T⟩
     have M':=M1.calm T k1 k2 k3
     have L2:bS w F1 w' F':=⟨k1,fun b hb=>T.block b (M1.bound b hb) (fun h=>h)⟩
     obtain ⟨M2,hx⟩:=M'.adopt hrow (fun b hb ho=>by
      have:=ho.choose_spec.lt M1.heap
      have:=hblk b hb
      omega) (fun b hb=>.inl (Nat.le_trans M1.mod.size (hblk b hb)))
     exact ⟨_,F',_,hK,h.next (L1.trans L2) (aH.pushRow e _ _) M2 hx hd⟩
    obtain ⟨az',F1,hp,L1,M1,l1,rr⟩:=purAs_sound _ (Froze.refl S.heap) h.mem (fun j=>(fs++c.args.map a.eval++cs).getD j undef) hargs.2 hs
    have hrun:=call_run (P:=P) (w:=w) (a:=a) ho hc hX hp.call
    unfold Goes Oper.wp
    rw [hrun]
    refine (hp.run w F1 _ M1.gw M1.bound ⟨by rw [l1];exact hargs.1,rr⟩).mono ?_
    rintro en w' ⟨r,x,F',rfl,hK,hr,k1,k2,k3,T⟩
    split at hK
    ·rename_i hsc
     have M':=h.mem.calm T (fun b hb=>hb) (fun b hb=>.inl hb) (fun b hb=>Nat.lt_of_lt_of_le (h.mem.bound b hb) T.size)
     exact ⟨_,F,e,hK,h.next (h.mem.later (T.mono (own':=ap e S.heap 0) fun _ h=>h.elim)) (aH.refl e) M' (scalar_rep hsc hr) hd⟩
    ·have M':=M1.calm T k1 k2 k3
     have L2:bS w F1 w' F':=⟨k1,fun b hb=>T.block b (M1.bound b hb) (fun h=>h)⟩
     exact ⟨_,F',e,hK,h.next (L1.trans L2) (aH.refl e) M' hr.env hd⟩
   ·split at hs
    ·split at hs
     case h_2=>exact hs.elim
     rename_i ob n rest hargseq
     split at hs
     case h_2=>exact hs.elim
     rename_i el sz xs hob
     have hh:=hs.elim
     clear hs
     obtain ⟨hpur,⟨hn,hs⟩⟩:=hh
     rw [hargseq] at hargs
     have hsz:(fs++c.args.map a.eval++cs).size=rest.length+1:=by rw [hargs.1];simp
     obtain ⟨v,vs,hvs⟩: ∃v vs,fs++c.args.map a.eval++cs= #[v]++vs:=by
      cases hl:(fs++c.args.map a.eval++cs).toList with
      |nil=>
       have:(fs++c.args.map a.eval++cs).toList.length=0:=by rw [hl];rfl
       rw [Array.length_toList] at this;omega
      |cons v r=>exact ⟨v,r.toArray,by apply Array.ext';rw [hl];simp⟩
     rw [hvs] at hargs hsz
     have hv0:=hargs.2 0 _ rfl
     have hvr: ∀(j:Nat) s,rest[j]? =some s→ch w F e s (vs.getD j undef):=by
      intro j s hj
      have:=hargs.2 (j+1) s (by simpa using hj)
      rw [Array.getD_eq_getD_getElem?,Array.getElem?_append_right (by simp)] at this
      rw [Array.getD_eq_getD_getElem?]
      simpa using this
     obtain ⟨az',F1,hp,L1,M1,l1,rr⟩:=purAs_sound rest (Froze.refl S.heap) h.mem (fun j=>vs.getD j undef) hvr hs
     have hv1:v=e.rowv ob:=by
      have h1:ch w F e (.row ob n) v:=by
       have h2:=hv0
       rw [Array.getD_eq_getD_getElem?,Array.getElem?_append_left (by simp)] at h2
       simpa using h2
      have hrl:=(M1.heap.ob ob _ hob).1
      cases h1 with
      |row hl hn' hv=>exact hv.symm
      |rowold hl hn'=>omega
     have hrow:=(M1.heap.ob ob _ hob).2
     rw [←hv1] at hrow
     have hrun:=call_run (P:=P) (w:=w) (a:=a) ho hc hX hp.call
     rw [hvs] at hrun
     unfold Goes Oper.wp
     rw [hrun]
     refine (hp.run w F1 v _ M1.gw (fun b hb=>M1.gn (own_block hob M1 (by rw [←hv1];exact hb))) M1.bound hrow ⟨by rw [l1];simp at hsz;omega,rr⟩).mono ?_
     rintro en w' ⟨ys,x,F',rfl,hK,hrow',hblk,k1,k2,k3,T⟩
     have hownv: ∀b,v.ownBlock=some b→ap e (frzAs S.heap rest) ob b:=fun b hb=>own_block hob M1 (by rw [←hv1];exact hb)
     have Mg:=M1.letgo ob
     have hgone: ∀o' b,ap e ((frzAs S.heap rest).set ob .gone) o' b→o'≠ob∧ap e (frzAs S.heap rest) o' b:=by
      intro o' b ho'
      unfold ap at ho'
      rw [List.getElem?_set] at ho'
      by_cases hn2:ob=o'
      ·subst hn2
       have hl:=(List.getElem?_eq_some_iff.1 hob).1
       rw [if_pos rfl] at ho'
       first|(rw [if_pos hl] at ho';exact ho'.elim)|exact ho'.elim
      ·rw [if_neg hn2] at ho'
       exact ⟨Ne.symm hn2,ho'⟩
     obtain ⟨Ma,La⟩:=Mg.aside (F':=F') T (fun b hb=>(hownv b hb).notF M1.heap) (fun b hb ⟨o',ho'⟩=>(hgone o' b ho').1 (M1.heap.one _ _ _ (hgone o' b ho').2 (hownv b hb))) (fun b hb=>M1.ours _ _ (hownv b hb)) k1 k2 k3
     obtain ⟨M2,hx⟩:=Ma.adopt hrow' (fun b hb ⟨o',ho'⟩=>by
      obtain ⟨h1,h2⟩:=hgone o' b ho'
      rcases hblk b hb with k|k
      ·exact h1 (M1.heap.one _ _ _ h2 (hownv b k))
      ·have:=h2.lt M1.heap;omega) (fun b hb=>by
      rcases hblk b hb with k|k
      ·exact M1.ours _ _ (hownv b k)
      ·exact .inl (Nat.le_trans M1.mod.size k))
     exact ⟨_,F',_,hK,h.next (L1.trans La) (aH.pushRow e _ _) M2 hx hd⟩
    have hrun:=call_run (P:=P) (w:=w) (a:=a) ho hc hX hs.call
    unfold Goes Oper.wp
    rw [hrun]
    refine (hs.run C w F e _ h.mem hargs).mono ?_
    rintro en w' ⟨r,x,H',F',e',rfl,hK,M',hr,E,L⟩
    exact ⟨_,F',e',hK,h.next L E M' hr hd⟩
theorem step_sound (hG:TyOk P G.tys) (h:Sat C S a w F e) (o:Oper) (K:St→Prop) (Q:Exit→Act→World→Prop) (hs:step P G S o K):Goes P C o a w K Q:=by
 have hh:=hs.elim
 clear hs
 obtain ⟨hd,hs⟩:=hh
 split at hs
 ·rename_i T ho
  split at hs
  ·rename_i ti ht;exact alloc_goes hG h ho ht hd hs
  ·exact hs.elim
 ·rename_i T x ho
  split at hs
  ·rename_i cs hc;exact box_goes h ho hc hd hs
  ·exact hs.elim
 ·rename_i T A x ho
  split at hs
  ·rename_i ti ys ht hc;have hq:=hs.elim.1;simp only [Bool.and_eq_true] at hq;exact store_goes hG h ho ht hc hd (Nat.eq_of_beq_eq_true hq.1) hq.2 hs.elim.2
  ·exact hs.elim
 ·rename_i T n parts ho
  split at hs
  case h_2=>exact hs.elim
  rename_i tl htl
  split at hs
  case h_2=>exact hs.elim
  rename_i el hu
  split at hs
  case h_2=>exact hs.elim
  rename_i te hte
  have hq:=hs.elim.1
  simp only [Bool.and_eq_true] at hq
  exact buildSlice_goes hG h ho htl hu hte hd (by rw [←Array.length_toList];exact Nat.eq_of_beq_eq_true hq.1.1) (Nat.le_of_ble_eq_true hq.1.2) (Nat.le_of_ble_eq_true hq.2) hs.elim.2
 ·exact hs.out C a w F e Q h
 ·exact hs.out C a w F e Q h
 ·exact hs.out C a w F e Q h
 ·rename_i c ho
  split at hs
  ·exact hs.out C a w F e Q h
  unfold callOp at hs
  split at hs
  ·rename_i b hc
   split at hs
   ·rename_i s x T T' h1 h2
    have hh:=hs.eqn
    clear hs
    obtain ⟨rfl,hs⟩:=hh
    exact append_goes hG h ho hc h1 h2 hd hs
   ·rename_i x T h1 h2
    exact clear_goes hG h ho hc h1 h2 hd hs
   ·exact val_goes hG h hd (by rw [ho] at hs;rw [ho];exact hs)
  ·rename_i f hc
   split at hs
   ·rename_i g first caps hf
    exact call_goes h ho hc hf hd hs
   ·exact hs.elim
  ·exact hs.elim
 ·exact val_goes hG h hd hs
end
end Go.Ab
namespace Go.Ab
set_option linter.unusedVariables false
set_option linter.unusedSimpArgs false
def forceN:Nat→(Nat→Prop)→Prop
 |0,q=>q 0
 |n+1,q=>forceN n fun m=>q (m+1)
theorem forceN_eq (n:Nat) (q:Nat→Prop):forceN n q=q n:=by
 induction n generalizing q with
 |zero=>rfl
 |succ n ih=>exact ih _
def forceA1 (x:AV) (q:AV→Prop):Prop:=
 match x with
 | .v x=>q (.v x)
 | .sl xs=>q (.sl xs)
 | .slc xs=>q (.slc xs)
 | .ptr o off=>q (.ptr o off)
 | .row o n=>q (.row o n)
 | .rptr o n sz i off=>q (.rptr o n sz i off)
 | .vw o n sz lo hi=>q (.vw o n sz lo hi)
 | .eptr cs=>q (.eptr cs)
 | .fn f a b=>q (.fn f a b)
 | .ifc t x=>q (.ifc t x)
 | .agg cs=>q (.agg cs)
 | .tup vs=>q (.tup vs)
 | .mp o=>q (.mp o)
 | .dead=>q .dead
theorem forceA1_eq (x:AV) (q:AV→Prop):forceA1 x q=q x:=by cases x<;>rfl
def forceL:List AV→(List AV→Prop)→Prop
 |[],q=>q []
 |a::r,q=>forceA1 a fun a=>forceL r fun r=>q (a::r)
theorem forceL_eq (l:List AV) (q:List AV→Prop):forceL l q=q l:=by
 induction l generalizing q with
 |nil=>rfl
 |cons a r ih=>rw [forceL,forceA1_eq,ih]
def forceA (x:AV) (q:AV→Prop):Prop:=
 match x with
 | .v x=>q (.v x)
 | .sl xs=>q (.sl xs)
 | .slc xs=>q (.slc xs)
 | .ptr o off=>forceN o fun o=>q (.ptr o off)
 | .row o n=>forceN o fun o=>q (.row o n)
 | .rptr o n sz i off=>forceN o fun o=>q (.rptr o n sz i off)
 | .vw o n sz lo hi=>forceN o fun o=>q (.vw o n sz lo hi)
 | .eptr cs=>q (.eptr cs)
 | .fn f a b=>forceL a fun a=>forceL b fun b=>q (.fn f a b)
 | .ifc t x=>forceA1 x fun x=>q (.ifc t x)
 | .agg cs=>forceL cs fun cs=>q (.agg cs)
 | .tup vs=>forceL vs fun vs=>q (.tup vs)
 | .mp o=>forceN o fun o=>q (.mp o)
 | .dead=>q .dead
theorem forceA_eq (x:AV) (q:AV→Prop):forceA x q=q x:=by
 cases x<;>simp only [forceA,forceN_eq,forceA1_eq,forceL_eq]
def forceO (o:Ob) (q:Ob→Prop):Prop:=
 match o with
 | .var T cs=>forceL cs fun cs=>q (.var T cs)
 | .row el sz xs=>q (.row el sz xs)
 | .frz sz xs=>q (.frz sz xs)
 | .ext R=>q (.ext R)
 | .gone=>q .gone
theorem forceO_eq (x:Ob) (q:Ob→Prop):forceO x q=q x:=by
 cases x<;>simp only [forceO,forceL_eq]
def forceH:List Ob→(List Ob→Prop)→Prop
 |[],q=>q []
 |a::r,q=>forceO a fun a=>forceH r fun r=>q (a::r)
theorem forceH_eq (l:List Ob) (q:List Ob→Prop):forceH l q=q l:=by
 induction l generalizing q with
 |nil=>rfl
 |cons a r ih=>rw [forceH,forceO_eq,ih]
def force1 (n:Nat) (q:Nat→Prop):Prop:=
 match n with
 |0=>q 0
 |k+1=>q (k+1)
theorem force1_eq (n:Nat) (q:Nat→Prop):force1 n q=q n:=by cases n<;>rfl
def putS (S:St) (d:Option Nat) (r:AV) (K:St→Prop):Prop:=
 match S,d with
 |⟨n,base,regs,H⟩,some d=>force1 n fun n=>force1 base fun base=>forceA r fun r=>K ⟨n,base,upd regs d r,H⟩
 |⟨n,base,regs,H⟩,none=>force1 n fun n=>force1 base fun base=>K ⟨n,base,regs,H⟩
theorem putS_eq (S:St) (d:Option Nat) (r:AV) (K:St→Prop):putS S d r K=K (S.put d r):=by
 cases S;cases d<;>simp only [putS,forceA_eq,force1_eq,St.put]
def putH (S:St) (H:List Ob) (d:Option Nat) (r:AV) (K:St→Prop):Prop:=
 match S,d with
 |⟨n,base,regs,_⟩,some d=>force1 n fun n=>force1 base fun base=>forceA r fun r=>forceH H fun H=>K ⟨n,base,upd regs d r,H⟩
 |⟨n,base,regs,_⟩,none=>force1 n fun n=>force1 base fun base=>forceH H fun H=>K ⟨n,base,regs,H⟩
theorem putH_eq (S:St) (H:List Ob) (d:Option Nat) (r:AV) (K:St→Prop):putH S H d r K=K ((S.withHeap H).put d r):=by
 cases S;cases d<;>simp only [putH,forceA_eq,forceH_eq,force1_eq,St.put,St.withHeap]
def hookB (S:St) (o:Op):Bool:=
 match o with
 | .binOp _ _ x _ _=>(match S.ev x with| .v (.string _)=>true| .agg _=>true| .sl _=>true|_=>false)
 | .index _ _ _=>true
 | .slice _ _ _ _ _=>true
 | .convert _ _ _=>true
 | .call c=>(match c.callee with| .builtin .len=>true|_=>false)
 |_=>false
def hookR (h:Bool) (r:AV) (k:AV→Prop):Prop:=
 match h with
 |true=>
  (match r with
  | .v (.string x)=>Re x fun z=>k (.v (.string z))
  | .v (.bool x)=>Re x fun z=>k (.v (.bool z))
  | .v (.int K x)=>Re x fun z=>k (.v (.int K z))
  | .sl xs=>Re xs fun z=>k (.sl z)
  |r=>k r)
 |false=>k r
theorem hookR_eq (h:Bool) (r:AV) (k:AV→Prop):hookR h r k=k r:=by
 unfold hookR
 cases h
 ·rfl
 ·simp only
  split<;>simp only [Re_eq]
def step2 (P:Program) (G:Gm) (S:St) (o:Oper) (K:St→Prop):Prop:=
 Chk (S.okD o.dst)<|
 match o.op with
 | .alloc T=>(match ty G.tys T with|some ti=>putH S (S.heap++[.var T (ti.zero.map .v)]) o.dst (.ptr S.heap.length 0) K|none=>False)
 | .box T x=>(match cellsB (S.ev x) with|some cs=>putH S (S.heap++[.var T cs]) o.dst (.ptr S.heap.length 0) K|none=>False)
 | .store T a x=>
   (match ty G.tys T,cellsB (S.ev x) with
   |some ti,some ys=>Chk (Nat.beq ys.length ti.size&&ones ys)<|storeS S (S.ev a) ys fun S'=>putH S' S'.heap o.dst .dead K
   |_,_=>False)
 | .buildSlice T n parts=>
   (match ty G.tys T with
   |some tl=>
    (match tl.u with
    | .slice el=>
      (match ty G.tys el with
      |some te=>Chk (Nat.beq parts.toList.length n&&Nat.ble 1 te.size&&Nat.ble (n*te.size) 16777216)<|rowsV S te.size S.heap 0 parts.toList fun H xs=>Re xs fun xs=>putH S (H++[.row el te.size xs]) o.dst (.row H.length n) K
      |none=>False)
    |_=>False)
   |none=>False)
 | .makeMap _ _=>OpP P o S K
 | .mapUpdate _ _ _ _=>OpP P o S K
 | .lookup _ _ _ _=>OpP P o S K
 | .call c=>(match isDelB S c with|true=>OpP P o S K|false=>callOp P G S c (valOp G.tys S o.op fun r=>hookR (hookB S o.op) r fun r=>putS S o.dst r K) fun r S'=>putH S' S'.heap o.dst r K)
 |op=>valOp G.tys S op fun r=>hookR (hookB S op) r fun r=>putS S o.dst r K
theorem withHeap_self (S:St):S.withHeap S.heap=S:=rfl
theorem step2_eq (P:Program) (G:Gm) (S:St) (o:Oper) (K:St→Prop):step2 P G S o K=step P G S o K:=by
 unfold step2 step
 simp only [putS_eq,putH_eq,hookR_eq,withHeap_self]
 all_goals (cases o.op<;>rfl)
end Go.Ab
