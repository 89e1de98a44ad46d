/- The program's data as plain Lean data, and how the machine holds it. Printed by a program of this session. and what follows it, up to: The kit's contracts on maps.Keys, slices.Sorted and slices.Sort at this program, in plain words (by the kit's own tool), and what the walk asks of them. -/
import Derived.Test.YtgeafeohfiejcaaGreatDoorG2
import Derived.WalkKit
import Derived.LaidEql
import Derived.Stop.Asserts
import Derived.RowKitTokens
import Derived.Maps.OwnSet
import Derived.Lib.SlKeysI
import Derived.Carry
import Derived.Sort.OwnSortedInts
import Derived.Shelf.SlIterI.Sorted
import Derived.Shelf.SlIterI.Nil
import Derived.Shelf.SortM.Plain
import Derived.Shelf.SortM.SortNone
import Derived.Ground.GgzProg
import Derived.Ground.SlgmProg
import Derived.Test.YtgeafeohfiejcaaGreatDoorProg
namespace Go.Ab
set_option linter.unusedSimpArgs false
set_option linter.unusedVariables false
structure Op_ where
 Kind:Int
 Key:Str
 Val:Str
 Lo:Str
 Hi:Str
 Most:Int
 deriving DecidableEq,Inhabited
structure Act where
 Kind:Int
 Txn:Int
 N:Int
 S:Str
 Op:Op_
 deriving DecidableEq,Inhabited
structure File where
 Name:Str
 Safe:Str
 Wait:Str
 deriving DecidableEq,Inhabited
structure Disk where
 Files:(List File)
 Room:Int
 Fuse:Int
 Off:Bool
 deriving DecidableEq,Inhabited
structure Pair where
 Key:Str
 Val:Str
 deriving DecidableEq,Inhabited
structure State where
 Data:(List Pair)
 Toks:(List Pair)
 deriving DecidableEq,Inhabited
structure Store where
 D:Disk
 From:Int
 Seg:Int
 Run:Int
 S:State
 Down:Bool
 deriving DecidableEq,Inhabited
structure Want where
 Mode:Int
 Lo:Str
 Hi:Str
 deriving DecidableEq,Inhabited
structure Hold where
 Txn:Int
 W:Want
 deriving DecidableEq,Inhabited
structure Claim where
 Txn:Int
 W:Want
 Until:Int
 deriving DecidableEq,Inhabited
structure Locks where
 Held:(List Hold)
 Queue:(List Claim)
 deriving DecidableEq,Inhabited
structure Write where
 Key:Str
 Val:Str
 Del:Bool
 deriving DecidableEq,Inhabited
structure Txn where
 Id:Int
 Token:Str
 Writes:(List Write)
 Waits:Bool
 Op:Op_
 deriving DecidableEq,Inhabited
structure Engine where
 X:Store
 L:Locks
 T:(List Txn)
 Next:Int
 Now:Int
 deriving DecidableEq,Inhabited
structure EngineReadsIn where
 Room:Int
 L:(List Act)
 Txn:Int
 Key:Str
 deriving DecidableEq,Inhabited
structure Done where
 Txn:Int
 Err:Int
 Val:Str
 Found:Bool
 Rows:(List Pair)
 Over:Bool
 deriving DecidableEq,Inhabited
structure EngineOwnIn where
 Room:Int
 L:(List Act)
 Txn:Int
 Op:Op_
 Other:Int
 deriving DecidableEq,Inhabited
structure EngineAskedIn where
 Room:Int
 L:(List Act)
 Txn:Int
 Op:Op_
 deriving DecidableEq,Inhabited
structure engine_work where
 Engine:Engine
 out:(List Done)
 deriving DecidableEq,Inhabited
structure Batch where
 Kind:Int
 Token:Str
 Writes:(List Write)
 deriving DecidableEq,Inhabited
structure table_write where
 Write:Write
 deriving DecidableEq,Inhabited
def ac (x:Pair):List AV:=[vS x.Key,vS x.Val]
def encState (x:State):List AV:=[sL ac x.Data,sL ac x.Toks]
def aR (x:Want):List AV:=[vI x.Mode,vS x.Lo,vS x.Hi]
def ay (x:Hold):List AV:=[vI x.Txn,vI x.W.Mode,vS x.W.Lo,vS x.W.Hi]
def an (x:Claim):List AV:=[vI x.Txn,vI x.W.Mode,vS x.W.Lo,vS x.W.Hi,vU x.Until]
def aD (x:Locks):List AV:=[sL ay x.Held,sL an x.Queue]
def am (x:Write):List AV:=[vS x.Key,vS x.Val,vB x.Del]
def enctable_write (x:table_write):List AV:=[vS x.Write.Key,vS x.Write.Val,vB x.Write.Del]
def ar (x:File):List AV:=[vS x.Name,vS x.Safe,vS x.Wait]
def encBatch (x:Batch):List AV:=[vI x.Kind,vS x.Token,sL am x.Writes]
def aG (x:Disk):List AV:=[sL ar x.Files,vI x.Room,vI x.Fuse,vB x.Off]
def encOp_ (x:Op_):List AV:=[vI x.Kind,vS x.Key,vS x.Val,vS x.Lo,vS x.Hi,vI x.Most]
def encAct (x:Act):List AV:=[vI x.Kind,vI x.Txn,vI x.N,vS x.S,vI x.Op.Kind,vS x.Op.Key,vS x.Op.Val,vS x.Op.Lo,vS x.Op.Hi,vI x.Op.Most]
def encEngineReadsIn (x:EngineReadsIn):List AV:=[vI x.Room,sL encAct x.L,vI x.Txn,vS x.Key]
def ak (x:Done):List AV:=[vI x.Txn,vI x.Err,vS x.Val,vB x.Found,sL ac x.Rows,vB x.Over]
def encEngineAskedIn (x:EngineAskedIn):List AV:=[vI x.Room,sL encAct x.L,vI x.Txn,vI x.Op.Kind,vS x.Op.Key,vS x.Op.Val,vS x.Op.Lo,vS x.Op.Hi,vI x.Op.Most]
def encStore (x:Store):List AV:=[sL ar x.D.Files,vI x.D.Room,vI x.D.Fuse,vB x.D.Off,vI x.From,vI x.Seg,vI x.Run,sL ac x.S.Data,sL ac x.S.Toks,vB x.Down]
def aB (x:Txn):List AV:=[vI x.Id,vS x.Token,sL am x.Writes,vB x.Waits,vI x.Op.Kind,vS x.Op.Key,vS x.Op.Val,vS x.Op.Lo,vS x.Op.Hi,vI x.Op.Most]
def encEngineOwnIn (x:EngineOwnIn):List AV:=[vI x.Room,sL encAct x.L,vI x.Txn,vI x.Op.Kind,vS x.Op.Key,vS x.Op.Val,vS x.Op.Lo,vS x.Op.Hi,vI x.Op.Most,vI x.Other]
def ag (x:Engine):List AV:=[sL ar x.X.D.Files,vI x.X.D.Room,vI x.X.D.Fuse,vB x.X.D.Off,vI x.X.From,vI x.X.Seg,vI x.X.Run,sL ac x.X.S.Data,sL ac x.X.S.Toks,vB x.X.Down,sL ay x.L.Held,sL an x.L.Queue,sL aB x.T,vI x.Next,vU x.Now]
def encengine_work (x:engine_work):List AV:=[sL ar x.Engine.X.D.Files,vI x.Engine.X.D.Room,vI x.Engine.X.D.Fuse,vB x.Engine.X.D.Off,vI x.Engine.X.From,vI x.Engine.X.Seg,vI x.Engine.X.Run,sL ac x.Engine.X.S.Data,sL ac x.Engine.X.S.Toks,vB x.Engine.X.Down,sL ay x.Engine.L.Held,sL an x.Engine.L.Queue,sL aB x.Engine.T,vI x.Engine.Next,vU x.Engine.Now,sL ak x.out]
def encA201 (x:(Str×Str)):List AV:=[vS x.1,vS x.2]
theorem iff_Pair (x y:Pair):x=y↔(x.Key=y.Key∧x.Val=y.Val):=by cases x;cases y;simp
theorem eq_Pair (x y:Pair):decide (x=y)=(decide (bs x.Key=bs y.Key)&&(decide (bs x.Val=bs y.Val)&&true)):=by
 rw [Bool.eq_iff_iff]
 simp [iff_Pair,bs_iff]
theorem iff_File (x y:File):x=y↔(x.Name=y.Name∧x.Safe=y.Safe∧x.Wait=y.Wait):=by cases x;cases y;simp
theorem iff_Want (x y:Want):x=y↔(x.Mode=y.Mode∧x.Lo=y.Lo∧x.Hi=y.Hi):=by cases x;cases y;simp
theorem eq_Want (x y:Want):decide (x=y)=(decide (x.Mode=y.Mode)&&(decide (bs x.Lo=bs y.Lo)&&(decide (bs x.Hi=bs y.Hi)&&true))):=by
 rw [Bool.eq_iff_iff]
 simp [iff_Pair,iff_File,iff_Want,bs_iff]
theorem iff_Write (x y:Write):x=y↔(x.Key=y.Key∧x.Val=y.Val∧x.Del=y.Del):=by cases x;cases y;simp
theorem eq_Write (x y:Write):decide (x=y)=(decide (bs x.Key=bs y.Key)&&(decide (bs x.Val=bs y.Val)&&((x.Del == y.Del)&&true))):=by
 rw [Bool.eq_iff_iff]
 simp [iff_Pair,iff_File,iff_Want,iff_Write,bs_iff]
open Go.Proofs
set_option linter.unusedVariables false
set_option linter.unusedSimpArgs false
set_option maxRecDepth 100000
def gm0:Gm:=⟨tys,[],[],[]⟩
abbrev pP (n:FuncId) (l:List AV) (R:AV):Prop:=PureP Tryz.prog n l fun a=>a=R
abbrev pH (n:FuncId) (H:List Ob) (l:List AV) (R:AV) (L:List Ob):Prop:=du Tryz.prog n H l fun a H'=>a=R∧H'.take L.length=L
theorem pW0 {g:FuncId} {fn:Func} (hf:Tryz.prog.funcs[g]? =some fn) {c:Code} {l:List AV} {K:AV→Prop} (hb:fn.body=some c) (h:GG Tryz.prog gm0→dz Tryz.prog c ⟨fn.ntmps,0,initRegs l,[]⟩ (FinW (finP gm0 fn.results.toList K))) (hn:(fn.name == "runtime.NumGoroutine")=false:=by kernel_rfl) (hl:Nat.ble l.length fn.ntmps=true:=by rfl):PureP Tryz.prog g l K:=pW ct mixed hf hb h hn hl
theorem pC0 {g:FuncId} {fn:Func} (hf:Tryz.prog.funcs[g]? =some fn) {c:Code} {H:List Ob} {l:List AV} {K:AV→List Ob→Prop} (hb:fn.body=some c) (h:GG Tryz.prog gm0→dz Tryz.prog c ⟨fn.ntmps,H.length,initRegs l,H⟩ (FinW (finC gm0 fn.results.toList K))) (hn:(fn.name == "runtime.NumGoroutine")=false:=by kernel_rfl) (hl:Nat.ble l.length fn.ntmps=true:=by rfl):du Tryz.prog g H l K:=pC ct mixed hf hb h hn hl
theorem clone_40 (l:List Txn) (hl:l.length*136≤140737488355328):FreshP Tryz.prog 40 [.sl (List.map aB l)] 46 10 (fun ys=>ys=List.map aB l):=by
 refine freshW (G:=gm0) ct Tryz.func40 rfl (by kernel_rfl) (by simp [Tryz.f40]) ?_
 refine dz.run (G:=gm0) ct mixed ?_
 conv=>whnf
 intro b hb
 conv=>whnf
 refine ⟨⟨b,rfl,?_⟩⟩
 conv=>whnf
 refine cond_mk (fun c=> ?_) (fun c=> ?_)
 ·conv=>whnf
  refine dt ?_
  conv=>whnf
  exact (hb c).symm
 ·conv=>whnf
  refine ⟨⟨List.map aB ([]:List Txn),rfl,?_⟩⟩
  conv=>whnf
  refine ⟨rfl,?_⟩
  conv=>whnf
  refine ⟨map_len (f:=aB) (n:=10) (fun _=>rfl) _,?_⟩
  conv=>whnf
  refine ⟨by simp only [List.map_nil,List.length_nil,List.length_map,Nat.zero_add];exact hl,?_⟩
  conv=>whnf
  refine ⟨⟨List.map aB l,by simp,?_⟩⟩
  conv=>whnf
  refine dt ?_
  conv=>whnf
  exact ⟨rfl,rfl⟩
theorem clone_60 (l:List File) (hl:l.length*48≤140737488355328):FreshP Tryz.prog 60 [.sl (List.map ar l)] 135 3 (fun ys=>ys=List.map ar l):=by
 refine freshW (G:=gm0) ct Tryz.func60 rfl (by kernel_rfl) (by simp [Tryz.f60]) ?_
 refine dz.run (G:=gm0) ct mixed ?_
 conv=>whnf
 intro b hb
 conv=>whnf
 refine ⟨⟨b,rfl,?_⟩⟩
 conv=>whnf
 refine cond_mk (fun c=> ?_) (fun c=> ?_)
 ·conv=>whnf
  refine dt ?_
  conv=>whnf
  exact (hb c).symm
 ·conv=>whnf
  refine ⟨⟨List.map ar ([]:List File),rfl,?_⟩⟩
  conv=>whnf
  refine ⟨rfl,?_⟩
  conv=>whnf
  refine ⟨map_len (f:=ar) (n:=3) (fun _=>rfl) _,?_⟩
  conv=>whnf
  refine ⟨by simp only [List.map_nil,List.length_nil,List.length_map,Nat.zero_add];exact hl,?_⟩
  conv=>whnf
  refine ⟨⟨List.map ar l,by simp,?_⟩⟩
  conv=>whnf
  refine dt ?_
  conv=>whnf
  exact ⟨rfl,rfl⟩
theorem clone_83 (l:List Hold) (hl:l.length*48≤140737488355328):FreshP Tryz.prog 83 [.sl (List.map ay l)] 52 4 (fun ys=>ys=List.map ay l):=by
 refine freshW (G:=gm0) ct Tryz.func83 rfl (by kernel_rfl) (by simp [Tryz.f83]) ?_
 refine dz.run (G:=gm0) ct mixed ?_
 conv=>whnf
 intro b hb
 conv=>whnf
 refine ⟨⟨b,rfl,?_⟩⟩
 conv=>whnf
 refine cond_mk (fun c=> ?_) (fun c=> ?_)
 ·conv=>whnf
  refine dt ?_
  conv=>whnf
  exact (hb c).symm
 ·conv=>whnf
  refine ⟨⟨List.map ay ([]:List Hold),rfl,?_⟩⟩
  conv=>whnf
  refine ⟨rfl,?_⟩
  conv=>whnf
  refine ⟨map_len (f:=ay) (n:=4) (fun _=>rfl) _,?_⟩
  conv=>whnf
  refine ⟨by simp only [List.map_nil,List.length_nil,List.length_map,Nat.zero_add];exact hl,?_⟩
  conv=>whnf
  refine ⟨⟨List.map ay l,by simp,?_⟩⟩
  conv=>whnf
  refine dt ?_
  conv=>whnf
  exact ⟨rfl,rfl⟩
theorem clone_84 (l:List Claim) (hl:l.length*56≤140737488355328):FreshP Tryz.prog 84 [.sl (List.map an l)] 91 5 (fun ys=>ys=List.map an l):=by
 refine freshW (G:=gm0) ct Tryz.func84 rfl (by kernel_rfl) (by simp [Tryz.f84]) ?_
 refine dz.run (G:=gm0) ct mixed ?_
 conv=>whnf
 intro b hb
 conv=>whnf
 refine ⟨⟨b,rfl,?_⟩⟩
 conv=>whnf
 refine cond_mk (fun c=> ?_) (fun c=> ?_)
 ·conv=>whnf
  refine dt ?_
  conv=>whnf
  exact (hb c).symm
 ·conv=>whnf
  refine ⟨⟨List.map an ([]:List Claim),rfl,?_⟩⟩
  conv=>whnf
  refine ⟨rfl,?_⟩
  conv=>whnf
  refine ⟨map_len (f:=an) (n:=5) (fun _=>rfl) _,?_⟩
  conv=>whnf
  refine ⟨by simp only [List.map_nil,List.length_nil,List.length_map,Nat.zero_add];exact hl,?_⟩
  conv=>whnf
  refine ⟨⟨List.map an l,by simp,?_⟩⟩
  conv=>whnf
  refine dt ?_
  conv=>whnf
  exact ⟨rfl,rfl⟩
theorem clone_138 (l:List Write) (hl:l.length*40≤140737488355328):FreshP Tryz.prog 138 [.sl (List.map am l)] 67 3 (fun ys=>ys=List.map am l):=by
 refine freshW (G:=gm0) ct Tryz.func138 rfl (by kernel_rfl) (by simp [Tryz.f138]) ?_
 refine dz.run (G:=gm0) ct mixed ?_
 conv=>whnf
 intro b hb
 conv=>whnf
 refine ⟨⟨b,rfl,?_⟩⟩
 conv=>whnf
 refine cond_mk (fun c=> ?_) (fun c=> ?_)
 ·conv=>whnf
  refine dt ?_
  conv=>whnf
  exact (hb c).symm
 ·conv=>whnf
  refine ⟨⟨List.map am ([]:List Write),rfl,?_⟩⟩
  conv=>whnf
  refine ⟨rfl,?_⟩
  conv=>whnf
  refine ⟨map_len (f:=am) (n:=3) (fun _=>rfl) _,?_⟩
  conv=>whnf
  refine ⟨by simp only [List.map_nil,List.length_nil,List.length_map,Nat.zero_add];exact hl,?_⟩
  conv=>whnf
  refine ⟨⟨List.map am l,by simp,?_⟩⟩
  conv=>whnf
  refine dt ?_
  conv=>whnf
  exact ⟨rfl,rfl⟩
theorem clone_158 (l:List Pair) (hl:l.length*32≤140737488355328):FreshP Tryz.prog 158 [.sl (List.map ac l)] 103 2 (fun ys=>ys=List.map ac l):=by
 refine freshW (G:=gm0) ct Tryz.func158 rfl (by kernel_rfl) (by simp [Tryz.f158]) ?_
 refine dz.run (G:=gm0) ct mixed ?_
 conv=>whnf
 intro b hb
 conv=>whnf
 refine ⟨⟨b,rfl,?_⟩⟩
 conv=>whnf
 refine cond_mk (fun c=> ?_) (fun c=> ?_)
 ·conv=>whnf
  refine dt ?_
  conv=>whnf
  exact (hb c).symm
 ·conv=>whnf
  refine ⟨⟨List.map ac ([]:List Pair),rfl,?_⟩⟩
  conv=>whnf
  refine ⟨rfl,?_⟩
  conv=>whnf
  refine ⟨map_len (f:=ac) (n:=2) (fun _=>rfl) _,?_⟩
  conv=>whnf
  refine ⟨by simp only [List.map_nil,List.length_nil,List.length_map,Nat.zero_add];exact hl,?_⟩
  conv=>whnf
  refine ⟨⟨List.map ac l,by simp,?_⟩⟩
  conv=>whnf
  refine dt ?_
  conv=>whnf
  exact ⟨rfl,rfl⟩
theorem delete_167 (l:List Claim) (i j:Int) (h:0≤i∧i≤j∧j≤(l.length:Int)∧(l.length:Int)<4611686018427387904∧0<l.length):
 EatP Tryz.prog 167 91 5 (List.map an l) [.v (.int .i64 i),.v (.int .i64 j)] (fun ys=>ys=List.map an (List.take i.toNat l++List.drop j.toNat l)):=by
 obtain ⟨h0,h1,h2,h3,h4⟩:=h
 have hlen:(List.map an l).length=l.length:=by simp
 refine eatW (G:=gm0) ct Tryz.func167 rfl (by kernel_rfl) (by simp [Tryz.f167]) ?_
 refine dz.run (G:=gm0) ct mixed ?_
 conv=>whnf
 refine ⟨rfl,?_⟩
 conv=>whnf
 refine ⟨⟨(l.length:Int),by simp,?_⟩⟩
 conv=>whnf
 refine ⟨rfl,?_⟩
 conv=>whnf
 refine ⟨⟨by simp,h0,h1,h2,by simp⟩,?_⟩
 conv=>whnf
 refine cond_mk (fun c=> ?_) (fun c=> ?_)
 ·conv=>whnf
  refine dt ?_
  conv=>whnf
  refine ⟨rfl,?_⟩
  have hij:i=j:=by simpa using c
  subst hij
  rw [List.take_append_drop]
 ·conv=>whnf
  refine ⟨rfl,?_⟩
  conv=>whnf
  refine ⟨⟨(l.length:Int),by simp,?_⟩⟩
  conv=>whnf
  refine cp.one 8 (.take 0 (.take 1 (.take 2 (.take 3 (.take 4 (.take 5 (.alt 6 (.take 7 .fin) .nil))))))) [] (by kernel_rfl) ?_
  conv=>whnf
  refine ⟨⟨rfl,by rw [hlen];exact h4⟩,?_⟩
  conv=>whnf
  refine ⟨⟨by omega,h0,by rw [hlen];omega⟩,?_⟩
  conv=>whnf
  refine ⟨⟨rfl,by rw [hlen];exact h4⟩,?_⟩
  conv=>whnf
  refine ⟨⟨by omega,by rw [hlen];omega,by omega⟩,?_⟩
  conv=>whnf
  refine ⟨?_,?_⟩
  ·conv=>whnf
   refine ⟨⟨rfl,rfl,rfl,by rw [hlen];omega⟩,?_⟩
   conv=>whnf
   refine ⟨⟨_,rfl,?_⟩⟩
   conv=>whnf
   refine ⟨by simp;omega,?_⟩
   conv=>whnf
   refine ⟨⟨_,rfl,?_⟩⟩
   conv=>whnf
   refine ⟨by simp;omega,?_⟩
   conv=>whnf
   refine ⟨⟨by omega,by rw [hlen];omega,by rw [hlen];omega⟩,?_⟩
   conv=>whnf
   refine ⟨by simp;omega,?_⟩
   conv=>whnf
   refine ⟨⟨_,rfl,?_⟩⟩
   conv=>whnf
   refine dt ?_
   conv=>whnf
   refine ⟨⟨rfl,by simp;omega⟩,?_⟩
   conv=>whnf
   have e1:((List.map an l).length:Int).toNat=(List.map an l).length:=by simp
   have e2:(((i.toNat+(((List.map an l).length:Int).toNat - j.toNat) - 0:Nat):Int)).toNat=i.toNat+((List.map an l).length - j.toNat):=by omega
   rw [e2,e1,Nat.zero_add,Nat.zero_add,List.append_assoc,List.map_append,List.map_take,List.map_drop]
   exact del_list _ i.toNat j.toNat _ (by omega) (by rw [hlen];omega)
  ·trivial
theorem delete_215 (l:List File) (i j:Int) (h:0≤i∧i≤j∧j≤(l.length:Int)∧(l.length:Int)<4611686018427387904∧0<l.length):
 EatP Tryz.prog 215 135 3 (List.map ar l) [.v (.int .i64 i),.v (.int .i64 j)] (fun ys=>ys=List.map ar (List.take i.toNat l++List.drop j.toNat l)):=by
 obtain ⟨h0,h1,h2,h3,h4⟩:=h
 have hlen:(List.map ar l).length=l.length:=by simp
 refine eatW (G:=gm0) ct Tryz.func215 rfl (by kernel_rfl) (by simp [Tryz.f215]) ?_
 refine dz.run (G:=gm0) ct mixed ?_
 conv=>whnf
 refine ⟨rfl,?_⟩
 conv=>whnf
 refine ⟨⟨(l.length:Int),by simp,?_⟩⟩
 conv=>whnf
 refine ⟨rfl,?_⟩
 conv=>whnf
 refine ⟨⟨by simp,h0,h1,h2,by simp⟩,?_⟩
 conv=>whnf
 refine cond_mk (fun c=> ?_) (fun c=> ?_)
 ·conv=>whnf
  refine dt ?_
  conv=>whnf
  refine ⟨rfl,?_⟩
  have hij:i=j:=by simpa using c
  subst hij
  rw [List.take_append_drop]
 ·conv=>whnf
  refine ⟨rfl,?_⟩
  conv=>whnf
  refine ⟨⟨(l.length:Int),by simp,?_⟩⟩
  conv=>whnf
  refine cp.one 8 (.take 0 (.take 1 (.take 2 (.take 3 (.take 4 (.take 5 (.alt 6 (.take 7 .fin) .nil))))))) [] (by kernel_rfl) ?_
  conv=>whnf
  refine ⟨⟨rfl,by rw [hlen];exact h4⟩,?_⟩
  conv=>whnf
  refine ⟨⟨by omega,h0,by rw [hlen];omega⟩,?_⟩
  conv=>whnf
  refine ⟨⟨rfl,by rw [hlen];exact h4⟩,?_⟩
  conv=>whnf
  refine ⟨⟨by omega,by rw [hlen];omega,by omega⟩,?_⟩
  conv=>whnf
  refine ⟨?_,?_⟩
  ·conv=>whnf
   refine ⟨⟨rfl,rfl,rfl,by rw [hlen];omega⟩,?_⟩
   conv=>whnf
   refine ⟨⟨_,rfl,?_⟩⟩
   conv=>whnf
   refine ⟨by simp;omega,?_⟩
   conv=>whnf
   refine ⟨⟨_,rfl,?_⟩⟩
   conv=>whnf
   refine ⟨by simp;omega,?_⟩
   conv=>whnf
   refine ⟨⟨by omega,by rw [hlen];omega,by rw [hlen];omega⟩,?_⟩
   conv=>whnf
   refine ⟨by simp;omega,?_⟩
   conv=>whnf
   refine ⟨⟨_,rfl,?_⟩⟩
   conv=>whnf
   refine dt ?_
   conv=>whnf
   refine ⟨⟨rfl,by simp;omega⟩,?_⟩
   conv=>whnf
   have e1:((List.map ar l).length:Int).toNat=(List.map ar l).length:=by simp
   have e2:(((i.toNat+(((List.map ar l).length:Int).toNat - j.toNat) - 0:Nat):Int)).toNat=i.toNat+((List.map ar l).length - j.toNat):=by omega
   rw [e2,e1,Nat.zero_add,Nat.zero_add,List.append_assoc,List.map_append,List.map_take,List.map_drop]
   exact del_list _ i.toNat j.toNat _ (by omega) (by rw [hlen];omega)
  ·trivial
open Go.RowKit Go.Extern.Stop Go.Stop Go.Extern
section
open Go.RowKit
set_option maxHeartbeats 4000000 in
set_option maxRecDepth 100000 in
theorem ins_room (b n c i vb vc:Nat) (cur:Array Value) (p:List Value) (w:World) (hi:i<n) (hroom:n+1≤c) (hc:c≤maxLen) (hb:w.heap[b]? =some (.cells cur 103 (0,0))) (hcs:cur.size=c*2)
 (vcur:Array Value) (hv:w.heap[vb]? =some (.cells vcur 103 (0,0))) (hvc:2≤vcur.size) (hp:vcur.toList.take 2=p) (hvb:vb≠b) (h1: ∀u∈cur.toList.take (n*2),u.oneCell'=true) (h1p: ∀u∈p,u.oneCell'=true):
 Calls Tryz.prog 163 #[.slice (some ⟨b,0,none⟩) n c,.int .i64 i,.slice (some ⟨vb,0,none⟩) 1 vc] w fun e w'=>
  e= .returned (.slice (some ⟨b,0,none⟩) (n+1) c)∧w'=w.drew.setRow b (cur.toList.take (i*2)++p++(cur.toList.take (n*2)).drop (i*2)++cur.toList.drop ((n+1)*2)).toArray:=by
 have hc63:c≤9223372036854775807:=by unfold maxLen at hc;omega
 have hpl:p.length=2:=by rw [←hp,List.length_take];simp;omega
 have hsz:(Tryz.prog.info? 103).map (·.size)=some 2:=by kernel_rfl
 have hz1: ¬((1:Int)=0):=by omega
 have hz2: ¬((i:Int)=(n:Int)):=by omega
 have hov: ∀lb cb,(callFunc 199 #[.slice (some ⟨vb,0,none⟩) 1 vc,.slice (some ⟨b,(i+1)*2,none⟩) lb cb]).run Tryz.prog w= .ok (.value (.bool false)) w:=fun lb cb=>by
  rw [run_callFunc_extern Tryz.func199 (by kernel_rfl) (by kernel_rfl) (by kernel_rfl) (e:=Extern.SlicesOverlaps.overlaps #[27,27] #[4]) (by kernel_rfl),
   Lib.run_overlaps_apart w 27 4 103 Tryz.underlying27 2 (fun w=>by kernel_rfl) ⟨vb,0,none⟩ ⟨b,(i+1)*2,none⟩ 1 vc lb cb hvb 103 103 vcur.size cur.size (by simp [World.shape?,hv]) (by simp [World.shape?,hb]) (by omega)
    (by simp [World.frozen?,hv]) (by simp [World.frozen?,hv])]
  rfl
 have mixed:Tryz.prog.follows .mixedOrders=true:=by kernel_rfl
 have hw1:IntKind.i64.wrap ((i:Int)+1)=(i:Int)+1:=by rw [IntKind.wrap_i64];omega
 have hw2:IntKind.i64.wrap ((n:Int)+1)=(n:Int)+1:=by rw [IntKind.wrap_i64];omega
 have hb1:(0:Int)≤(i:Int)+1:=by omega
 have hin:i≤n:=by omega
 have htn:((i:Int)+1).toNat=i+1:=by omega
 have htn2:((n:Int)+1).toNat=n+1:=by omega
 have hb2: ¬(c=i+1):=by omega
 have hb3:(i:Int)≤(n:Int)+1:=by omega
 have hb4: ¬(c=i):=by omega
 have hb5: ¬((c:Int)<(n:Int)+1):=by omega
 have hb6:(n:Int)+1≤(c:Int):=by omega
 obtain ⟨news,hnews⟩: ∃news,news=(cur.toList.drop (i*2)).take ((n - i)*2):=⟨_,rfl⟩
 have hnl:news.length=(n - i)*2:=by rw [hnews,List.length_take,List.length_drop];simp;omega
 obtain ⟨cur1,hcur1⟩: ∃cur1,cur1=(cur.toList.take ((i+1)*2)++news++cur.toList.drop ((i+1)*2+(n - i)*2)).toArray:=⟨_,rfl⟩
 have hc1s:cur1.size=c*2:=by rw [hcur1];simp [hnl];omega
 have hcp1: ∀ty dc sc,(Builtin.copy_ #[27,27] ty #[.slice (some ⟨b,(i+1)*2,none⟩) (n - i) dc,.slice (some ⟨b,i*2,none⟩) (n+1 - i) sc]).run Tryz.prog w.drew= .ok (goInt ((n - i:Nat):Int)) (w.drew.setRow b cur1):=fun ty dc sc=>by
  rw [hcur1]
  refine run_copy_rows (w:=w.drew) 27 27 ty 103 2 b ((i+1)*2) (n - i) dc (n - i) ⟨b,i*2,none⟩ (n+1 - i) sc news cur 103 Tryz.underlying27 hsz (by simp only [Nat.min_def];split<;>omega) hnl hb (by omega) (fun j u hj=> ?_) (fun u hu=> ?_)
  ·have hj':=hj
   rw [hnews,List.getElem?_take] at hj'
   split at hj'
   ·rw [List.getElem?_drop] at hj'
    rw [Addr.add_lit,Lib.cell_of_heap (show w.drew.heap[b]? =some (.cells cur 103 (0,0)) from hb)]
    simpa using hj'
   ·cases hj'
  ·rw [hnews] at hu
   have hu2:=List.mem_of_mem_take hu
   refine h1 u ?_
   have e1:(cur.toList.drop (i*2)).take ((n - i)*2)=(cur.toList.take (n*2)).drop (i*2):=by rw [List.drop_take];congr 1;omega
   rw [e1] at hu
   exact List.mem_of_mem_drop hu
 obtain ⟨W1,hW1⟩: ∃W1,W1=w.drew.setRow b cur1:=⟨_,rfl⟩
 have hW1b:W1.heap[b]? =some (.cells cur1 103 (0,0)):=by rw [hW1];exact setRow_heap w.drew b cur cur1 103 _ hb
 have hW1v:W1.heap[vb]? =some (.cells vcur 103 (0,0)):=by rw [hW1,setRow_other w.drew b vb cur1 hvb];exact hv
 have hcp2: ∀(W:World),W.heap=W1.heap→ ∀ty dc,(Builtin.copy_ #[27,27] ty #[.slice (some ⟨b,i*2,none⟩) (n+1 - i) dc,.slice (some ⟨vb,0,none⟩) 1 vc]).run Tryz.prog W= .ok (goInt 1) (W.setRow b (cur1.toList.take (i*2)++p++cur1.toList.drop (i*2+1*2)).toArray):=fun W hW ty dc=>
  run_copy_rows (w:=W) 27 27 ty 103 2 b (i*2) (n+1 - i) dc 1 ⟨vb,0,none⟩ 1 vc p cur1 103 Tryz.underlying27 hsz (by simp only [Nat.min_def];split<;>omega) (by omega) (by rw [hW];exact hW1b) (by omega) (fun j u hj=>by
   rw [←hp,List.getElem?_take] at hj
   split at hj
   ·rw [Addr.add_lit,Lib.cell_of_heap (show W.heap[vb]? =some (.cells vcur 103 (0,0)) by rw [hW];exact hW1v)]
    simpa using hj
   ·cases hj) h1p
 rw [←hW1] at hcp1
 have fin:W1.setRow b (cur1.toList.take (i*2)++p++cur1.toList.drop (i*2+1*2)).toArray=w.drew.setRow b (cur.toList.take (i*2)++p++(cur.toList.take (n*2)).drop (i*2)++cur.toList.drop ((n+1)*2)).toArray:=by
  rw [hW1,setRow_setRow]
  have hn1:news=(cur.toList.take (n*2)).drop (i*2):=by rw [hnews,List.drop_take];congr 1;omega
  have e1:cur1.toList=cur.toList.take ((i+1)*2)++(news++cur.toList.drop ((n+1)*2)):=by
   rw [hcur1,show (i+1)*2+(n - i)*2=(n+1)*2 by omega];simp
  have e2:cur1.toList.take (i*2)=cur.toList.take (i*2):=by
   rw [e1,List.take_append_of_le_length (by rw [List.length_take];simp;omega),List.take_take];congr 1;omega
  have e3:cur1.toList.drop (i*2+1*2)=news++cur.toList.drop ((n+1)*2):=by
   rw [e1,List.drop_append_of_le_length (by rw [List.length_take];simp;omega),List.drop_eq_nil_of_le (by rw [List.length_take];omega),List.nil_append]
  rw [e2,e3,←hn1]
  simp only [List.append_assoc]
 obtain ⟨X,hX⟩: ∃X,X=(cur1.toList.take (i*2)++p++cur1.toList.drop (i*2+1*2)).toArray:=⟨_,rfl⟩
 rw [←hX] at hcp2 fin
 clear hX hW1b hW1v hW1 hc1s hcur1 hnl hnews
 go_enter Tryz.func163,Tryz.ntmps163
 go_wp2_with (simp only [hov])
 go_region_law (refine step_copy_eq rfl _ _ 27 27 rfl _ _ (by simp [Act.eval,Act.put]) (by simp [Act.eval,Act.put]) (hcp1 _ _ _) ?_)
 go_wp2_with (at_builtin;refine wpList_copy_eq rfl _ _ 27 27 rfl _ _ rfl rfl (hcp2 _ rfl _ _) ?_)
 go_ret
 first|exact ⟨rfl,fin⟩|(refine ⟨rfl,?_⟩;simp only [List.append_assoc];done)
set_option maxHeartbeats 4000000 in
set_option maxRecDepth 100000 in
theorem ins_grow (b n c i vb vc:Nat) (cur:Array Value) (p:List Value) (w:World) (hi:i<n) (hnc:n≤c) (hroom:c<n+1) (hbig:(n+1)*32≤140737488355328) (hb:w.heap[b]? =some (.cells cur 103 (0,0))) (hcs:cur.size=c*2)
 (vcur:Array Value) (hv:w.heap[vb]? =some (.cells vcur 103 (0,0))) (hvc:2≤vcur.size) (hp:vcur.toList.take 2=p) (h1: ∀u∈cur.toList.take (n*2),u.oneCell'=true) (h1p: ∀u∈p,u.oneCell'=true):
 Calls Tryz.prog 163 #[.slice (some ⟨b,0,none⟩) n c,.int .i64 i,.slice (some ⟨vb,0,none⟩) 1 vc] w fun e w'=>
  ∃G tl,e= .returned (.slice (some ⟨w.heap.size,0,none⟩) (n+1) G)∧n+1≤G∧G≤maxLen∧tl.length=(G - (n+1))*2∧w'.heap[w.heap.size]? =some (.cells (cur.toList.take (i*2)++p++(cur.toList.take (n*2)).drop (i*2)++tl).toArray 103 (0,0))∧bV w w' (fun _=>False):=by
 have hpl:p.length=2:=by rw [←hp,List.length_take];simp;omega
 have hi0: ∃j z,Tryz.prog.info? 103=some j∧j.zero=some z∧j.size=2∧j.bytes=32∧z.cells.size=2:=⟨_,_,rfl,rfl,rfl,rfl,rfl⟩
 obtain ⟨i0,z,hi0,hz0,hzs,hzb,hzc⟩:=hi0
 have hsz:(Tryz.prog.info? 103).map (·.size)=some 2:=by rw [hi0];simp [hzs]
 have hbw:b<w.heap.size:=(Array.getElem?_eq_some_iff.1 hb).1
 have hvw:vb<w.heap.size:=(Array.getElem?_eq_some_iff.1 hv).1
 have mixed:Tryz.prog.follows .mixedOrders=true:=by kernel_rfl
 have hz1: ¬((1:Int)=0):=by omega
 have hz2: ¬((i:Int)=(n:Int)):=by omega
 have hz3:(c:Int)<(n:Int)+1:=by omega
 have hkk:(n:Int)+1 - (i:Int)=((n+1 - i:Nat):Int):=by omega
 have hik:i+(n+1 - i)=n+1:=by omega
 have hold:(Builtin.firstCells i0.size i (.slice (some ⟨b,0,none⟩) i c)).run Tryz.prog w.drew= .ok (cur.toList.take (i*2)).toArray w.drew:=by
  rw [hzs]
  exact run_firstCells_some w.drew 2 i ⟨b,0,none⟩ i c (cur.toList.take (i*2)) (by rw [List.length_take];simp;omega) (fun j v hj=>by
   rw [Addr.add_lit,Lib.cell_of_heap (show w.drew.heap[b]? =some (.cells cur 103 (0,0)) from hb)]
   rw [List.getElem?_take] at hj
   split at hj
   ·simpa using hj
   ·cases hj)
 obtain ⟨G,hG⟩: ∃G,G=grownCap w (n+1) c 103:=⟨_,rfl⟩
 obtain ⟨ROW,hROW⟩: ∃ROW:Array Value,ROW=(cur.toList.take (i*2)).toArray++Builtin.zeroCells z.cells (n+1 - i)++Builtin.zeroCells z.cells (G - (n+1)):=⟨_,rfl⟩
 have hrz: ∀ty,(Builtin.append_ #[27,3] ty #[.slice (some ⟨b,0,none⟩) i c,.int .i64 ((n:Int)+1 - (i:Int))]).run Tryz.prog w=
  .ok (.slice (some ⟨w.heap.size,0,none⟩) (n+1) G) (w.drew.alloc (.cells ROW 103)):=fun ty=>by
  have h:=Lib.run_append_grow_zeros w 27 3 ty 103 i0 _ .i64 .i64 Tryz.underlying27 Tryz.underlying3 hi0 hz0 (some ⟨b,0,none⟩) i c (cur.toList.take (i*2)) hold (n+1 - i) (by omega) (by omega) (by omega) (by omega) (by rw [hzb];omega) (by rw [hzb,hik];exact growslice_fits hroom hbig)
  rw [hik,←hG,←hROW] at h
  rw [hkk]
  exact h
 have hGn:n+1≤G:=by rw [hG];exact grownCap_ge w _ _ _
 have hGm:G≤maxLen:=by
  have:=grownCap_le_maxLen w (n+1) c 103 (by unfold maxLen;omega)
  rwa [←hG] at this
 have hG63:G≤9223372036854775807:=by unfold maxLen at hGm;omega
 have hRl:ROW.size=G*2:=by
  rw [hROW]
  simp only [Array.size_append,List.size_toArray,List.length_take,size_zeroCells,hzc]
  simp
  omega
 obtain ⟨N,hN⟩: ∃N,N=w.heap.size:=⟨_,rfl⟩
 obtain ⟨W1,hW1⟩: ∃W1,W1=w.drew.alloc (.cells ROW 103):=⟨_,rfl⟩
 rw [←hW1,←hN] at hrz
 have hW1N:W1.heap[N]? =some (.cells ROW 103 (0,0)):=by rw [hW1,hN];exact heap_alloc_new w.drew _
 have hW1o: ∀k,k<w.heap.size→W1.heap[k]? =w.heap[k]? :=fun k hk=>by rw [hW1];exact Lib.alloc_old w.drew _ k hk
 obtain ⟨row2,hrow2⟩: ∃row2,row2=(ROW.toList.take (i*2)++p++ROW.toList.drop (i*2+1*2)).toArray:=⟨_,rfl⟩
 have hr2:row2.size=G*2:=by rw [hrow2];simp [hpl];omega
 have hcpA: ∀(W:World),W.heap=W1.heap→ ∀ty dc,(Builtin.copy_ #[27,27] ty #[.slice (some ⟨N,i*2,none⟩) (n+1 - i) dc,.slice (some ⟨vb,0,none⟩) 1 vc]).run Tryz.prog W= .ok (goInt 1) (W.setRow N row2):=fun W hW ty dc=>by
  rw [hrow2]
  exact run_copy_rows (w:=W) 27 27 ty 103 2 N (i*2) (n+1 - i) dc 1 ⟨vb,0,none⟩ 1 vc p ROW 103 Tryz.underlying27 hsz (by simp only [Nat.min_def];split<;>omega) (by omega) (by rw [hW];exact hW1N) (by omega) (fun j u hj=>by
   rw [←hp,List.getElem?_take] at hj
   split at hj
   ·rw [Addr.add_lit,Lib.cell_of_heap (show W.heap[vb]? =some (.cells vcur 103 (0,0)) by rw [hW,hW1o vb hvw];exact hv)]
    simpa using hj
   ·cases hj) h1p
 obtain ⟨news,hnews⟩: ∃news,news=(cur.toList.take (n*2)).drop (i*2):=⟨_,rfl⟩
 have hnl:news.length=(n - i)*2:=by rw [hnews,List.length_drop,List.length_take];simp;omega
 obtain ⟨row3,hrow3⟩: ∃row3,row3=(row2.toList.take ((i+1)*2)++news++row2.toList.drop ((i+1)*2+(n - i)*2)).toArray:=⟨_,rfl⟩
 have hcpB: ∀(W:World),W.heap=(W1.setRow N row2).heap→ ∀ty dc sc,(Builtin.copy_ #[27,27] ty #[.slice (some ⟨N,(i+1)*2,none⟩) (n - i) dc,.slice (some ⟨b,i*2,none⟩) (n - i) sc]).run Tryz.prog W= .ok (goInt ((n - i:Nat):Int)) (W.setRow N row3):=fun W hW ty dc sc=>by
  rw [hrow3]
  refine run_copy_rows (w:=W) 27 27 ty 103 2 N ((i+1)*2) (n - i) dc (n - i) ⟨b,i*2,none⟩ (n - i) sc news row2 103 Tryz.underlying27 hsz (by simp only [Nat.min_def];split<;>omega) hnl (by rw [hW];exact setRow_heap W1 N ROW row2 103 _ hW1N) (by omega) (fun j u hj=> ?_) (fun u hu=> ?_)
  ·have hbN:b≠N:=by omega
   rw [Addr.add_lit,Lib.cell_of_heap (show W.heap[b]? =some (.cells cur 103 (0,0)) by rw [hW,setRow_other W1 N b row2 hbN,hW1o b hbw];exact hb)]
   rw [hnews,List.getElem?_drop,List.getElem?_take] at hj
   split at hj
   ·simpa using hj
   ·cases hj
  ·rw [hnews] at hu
   exact h1 u (List.mem_of_mem_drop hu)
 have fin: ∀w':World,w'.heap=((W1.setRow N row2).setRow N row3).heap→w'.os=w.os→w'.tape=w.tape→w'.output=w.output→ ∃tl,tl.length=(G - (n+1))*2∧w'.heap[w.heap.size]? =some (.cells (cur.toList.take (i*2)++p++(cur.toList.take (n*2)).drop (i*2)++tl).toArray 103 (0,0))∧bV w w' (fun _=>False):=by
  intro w' hw' ho ht hou
  refine ⟨row2.toList.drop ((n+1)*2),by rw [List.length_drop];simp [hr2];omega,?_,⟨ho,ht,hou,?_,fun k hk _=> ?_⟩⟩
  ·rw [hw',←hN,setRow_heap (W1.setRow N row2) N row2 row3 103 (0,0) (setRow_heap W1 N ROW row2 103 _ hW1N),hrow3,←hnews,show (i+1)*2+(n - i)*2=(n+1)*2 by omega]
   have e1:ROW.toList.take (i*2)=cur.toList.take (i*2):=by
    rw [hROW]
    simp only [Array.toList_append]
    rw [List.append_assoc,List.take_append_of_le_length (by rw [List.length_take];simp;omega),List.take_take];congr 1;omega
   have e2:row2.toList.take ((i+1)*2)=cur.toList.take (i*2)++p:=by
    rw [hrow2,e1]
    simp only []
    rw [List.take_append_of_le_length (by rw [List.length_append,List.length_take];simp;omega),List.take_of_length_le (by rw [List.length_append,List.length_take];omega)]
   rw [e2]
  ·rw [hw',hW1];simp [World.setRow]
  ·have hkN:k≠N:=by omega
   rw [hw',setRow_other (W1.setRow N row2) N k row3 hkN,setRow_other W1 N k row2 hkN,hW1o k hk]
 have hw1:IntKind.i64.wrap ((i:Int)+1)=(i:Int)+1:=by rw [IntKind.wrap_i64];omega
 have hb1:(0:Int)≤(i:Int)+1:=by omega
 have hin:i≤n:=by omega
 have htn:((i:Int)+1).toNat=i+1:=by omega
 have hb3:(i:Int)≤(n:Int):=by omega
 have hci: ¬(c=i):=by omega
 have hGi: ¬(G=i):=by omega
 have hGim: ¬(G=i+1):=by omega
 rw [←hN]
 have hcpC:=hcpA W1 rfl
 have hcpD:=hcpB (W1.setRow N row2).drew rfl
 clear hcpA hcpB
 clear hrow3 hnl hnews hrow2 hr2 hW1o hW1N hRl hROW hG hkk hik hold
 rw [←hN] at fin
 have ho1:W1.os=w.os:=by rw [hW1];rfl
 have ht1:W1.tape=w.tape:=by rw [hW1];rfl
 have hu1:W1.output=w.output:=by rw [hW1];rfl
 clear hW1 hN
 go_enter Tryz.func163,Tryz.ntmps163
 go_wp2_with (first
  |(at_builtin;refine wpList_append_eq rfl _ _ 27 3 rfl _ _ rfl rfl (hrz _) ?_)
  |(at_builtin;refine wpList_copy_eq rfl _ _ 27 27 rfl _ _ rfl rfl (hcpC _ _) ?_))
 go_region_law (refine step_copy_eq rfl _ _ 27 27 rfl _ _ (by simp [Act.eval,Act.put]) (by simp [Act.eval,Act.put]) (hcpD _ _ _) ?_)
 go_wp2
 go_ret
 obtain ⟨tl,q1,q2,q3⟩:=fin ((W1.setRow N row2).drew.setRow N row3) (by rfl) (by exact ho1) (by exact ht1) (by exact hu1)
 exact ⟨G,tl,rfl,hGn,hGm,q1,q2,q3⟩
theorem ins_calls (v pv:Value) (n i:Nat) (xs p:List Value) (w:World) (hv:w.ownsRow 0 103 2 v n xs) (hp:w.ownsRow 0 103 2 pv 1 p) (hne: ∀b,v.ownBlock=some b→pv.ownBlock≠some b) (hi:i<n)
 (hbig:(n+1)*32≤140737488355328) (h1: ∀u∈xs,u.oneCell'=true) (h1p: ∀u∈p,u.oneCell'=true):
 Calls Tryz.prog 163 #[v,.int .i64 i,pv] w fun e w'=> ∃v',e= .returned v'∧w'.ownsRow 0 103 2 v' (n+1) (xs.take (i*2)++p++xs.drop (i*2))∧(v'.ownBlock=v.ownBlock∨v'.ownBlock=some w.heap.size)∧bV w w' (fun k=>v.ownBlock=some k):=by
 rcases hp.2 with ⟨_,h0⟩|⟨vb,vc,vcur,rfl,_,hvb,hvc,_,hvs,hvt⟩
 ·exact absurd h0 (by decide)
 rcases hv.2 with ⟨_,h0⟩|⟨b,c,cur,rfl,_,hb,hnc,hc,hcs,ht⟩
 ·omega
 have hvbb:vb≠b:=fun h=>hne b rfl (by simp [Value.ownBlock,h])
 have hxl:xs.length=n*2:=hv.1
 have hpl:p.length=2:=hp.1
 have hyl:(xs.take (i*2)++p++xs.drop (i*2)).length=(n+1)*2:=by
  simp only [List.length_append,List.length_take,List.length_drop];omega
 by_cases hroom:n+1≤c
 ·refine (ins_room b n c i vb vc cur p w hi hroom hc hb hcs vcur hvb (by omega) hvt hvbb (by rw [ht];exact h1) h1p).mono ?_
  rintro e w' ⟨rfl,rfl⟩
  rw [ht]
  have e0:cur.toList.take (i*2)=xs.take (i*2):=by rw [←ht,List.take_take];congr 1;omega
  rw [e0]
  refine ⟨_,rfl,⟨hyl,.inr ⟨b,c,_,rfl,Nat.zero_le _,setRow_heap w.drew b cur _ 103 _ hb,hroom,hc,?_,?_⟩⟩,.inl rfl,⟨rfl,rfl,rfl,by simp [World.setRow],fun k _ hk=>setRow_other w.drew b k _ (fun e=>hk (by simp [Value.ownBlock,e]))⟩⟩
  ·simp only [List.size_toArray,List.length_append,List.length_drop,Array.length_toList] at hyl⊢;omega
  ·rw [←hyl];exact List.take_left
 ·refine (ins_grow b n c i vb vc cur p w hi hnc (by omega) hbig hb hcs vcur hvb (by omega) hvt (by rw [ht];exact h1) h1p).mono ?_
  rintro e w' ⟨G,tl,rfl,hG,hGm,htl,hh,T⟩
  rw [ht] at hh
  have e0:cur.toList.take (i*2)=xs.take (i*2):=by rw [←ht,List.take_take];congr 1;omega
  rw [e0] at hh
  refine ⟨_,rfl,⟨hyl,.inr ⟨w.heap.size,G,_,rfl,Nat.zero_le _,hh,hG,hGm,?_,?_⟩⟩,.inr rfl,⟨T.os,T.tape,T.output,T.size,fun k hk _=>T.block k hk (fun h=>h)⟩⟩
  ·simp only [List.size_toArray,List.length_append] at hyl⊢;omega
  ·rw [←hyl];exact List.take_left
theorem insert_163 {α:Type} (enc:α→List AV) (l:List α) (x:α) (i:Int) (hi:0≤i∧i<(l.length:Int)∧(l.length+1)*32≤140737488355328):
 du Tryz.prog 163 [.row 103 2 (l.map enc),.row 103 2 [enc x]] [.row 0 (l.map enc).length,.v (.int .i64 i),.row 1 1] (fun r H'=>r= .row 0 ((l.take i.toNat++[x]++l.drop i.toNat).map enc).length∧
  H'.take ([.row 103 2 ((l.take i.toNat++[x]++l.drop i.toNat).map enc),.row 103 2 [enc x]]:List Ob).length=[.row 103 2 ((l.take i.toNat++[x]++l.drop i.toNat).map enc),.row 103 2 [enc x]]):=by
 have h:=callP_insert (dy Tryz.func163 rfl (by kernel_rfl)) ins_calls (l.map enc) (enc x) i (by simpa using hi)
 simpa only [List.map_append,List.map_take,List.map_drop,List.map_cons,List.map_nil] using h
end
section
open Go.RowKit
set_option maxHeartbeats 1000000 in
set_option maxRecDepth 100000 in
theorem cc_used (b:Nat) (w:World) (h0:w.cell? ⟨b,0,none⟩=some (.pointer (some ⟨b,0,none⟩))):
 Calls Tryz.prog 168 #[.pointer (some ⟨b,0,none⟩)] w fun e w'=>e= .returned (.tuple #[])∧w'=w:=by
 have hj0: ∃j,Tryz.prog.info? 214=some j∧j.size=2:=⟨_,rfl,rfl⟩
 obtain ⟨j,hj,hjs⟩:=hj0
 have u168:=run_underlying Tryz.underlying211
 go_enter Tryz.func168,Tryz.ntmps168
 go_wp2
 rw [Lib.run_neq_ptr_same w _ Tryz.underlying211 hj]
 go_wp2
 go_end0
 exact ⟨rfl,rfl⟩
set_option maxHeartbeats 1000000 in
set_option maxRecDepth 100000 in
theorem cc_fresh (b:Nat) (w:World) (h0:w.cell? ⟨b,0,none⟩=some (.pointer none)) (hsh:w.shape? b=some (214,2)) (hfz:w.frozen? ⟨b,0,none⟩=false):
 Calls Tryz.prog 168 #[.pointer (some ⟨b,0,none⟩)] w fun e w'=>e= .returned (.tuple #[])∧w'=w.setCell ⟨b,0,none⟩ (.pointer (some ⟨b,0,none⟩)):=by
 have hj0: ∃j,Tryz.prog.info? 214=some j∧j.size=2:=⟨_,rfl,rfl⟩
 obtain ⟨j,hj,hjs⟩:=hj0
 have u168:=run_underlying Tryz.underlying211
 have lies:liesAt Tryz.prog Tryz.prog.depth 214 (2 / Tryz.prog.cellsOf 214) 0 214 1=true:=by kernel_rfl
 go_enter Tryz.func168,Tryz.ntmps168
 go_wp2
 rw [Lib.run_to_unsafe w ⟨b,0,none⟩ Tryz.underlying211 Tryz.underlying268 hj (by rw [hjs];decide) hsh (Nat.zero_lt_succ 1)]
 simp only [Result.andThen]
 rw [Oper.upon_value]
 go_wp2
 rw [run_callFunc_extern Tryz.func204 (by kernel_rfl) (by kernel_rfl) (by kernel_rfl) (e:=Extern.AbiNoEscape.same) (by kernel_rfl)]
 rw [Lib.run_noEscape]
 simp only [Result.andThen]
 rw [Oper.upon_value]
 go_wp2
 rw [Lib.run_from_unsafe w ⟨b,0,none⟩ Tryz.underlying268 Tryz.underlying211 hj hsh lies]
 simp only [Result.andThen]
 rw [Oper.upon_value]
 go_wp2
 go_end0
 exact ⟨rfl,rfl⟩
theorem cc_any (b:Nat) (p v:Value) (w:World) (hp:p= .pointer none∨p= .pointer (some ⟨b,0,none⟩)) (hbk:w.heap[b]? =some (.cells #[p,v] 214 (0,0))):
 Calls Tryz.prog 168 #[.pointer (some ⟨b,0,none⟩)] w fun e w'=>e= .returned (.tuple #[])∧(w'.heap[b]? =some (.cells #[.pointer (some ⟨b,0,none⟩),v] 214 (0,0))∧w'.heap.size=w.heap.size∧bV w w' (fun k=>k=b)):=by
 have hlt:b<w.heap.size:=by
  rcases Nat.lt_or_ge b w.heap.size with h'|h'
  ·exact h'
  ·simp [Array.getElem?_eq_none h'] at hbk
 rcases hp with rfl|rfl
 ·refine (cc_fresh b w (by rw [Lib.cell_of_heap hbk];rfl) (by simp [World.shape?,hbk]) (Lib.frozen_of_heap hbk 0)).mono ?_
  rintro e w' ⟨rfl,rfl⟩
  refine ⟨rfl,?_,by simp [World.setCell],⟨rfl,rfl,rfl,by simp [World.setCell],fun k _ hk=>Below.heap_setCell _ _ _ _ (fun e=>hk e)⟩⟩
  simp [World.setCell,Array.getElem?_modify,hbk]
 ·refine (cc_used b w (by rw [Lib.cell_of_heap hbk];rfl)).mono ?_
  rintro e w' ⟨rfl,rfl⟩
  exact ⟨rfl,hbk,rfl,bV.refl _ _⟩
set_option maxHeartbeats 2000000 in
set_option maxRecDepth 100000 in
theorem ws_calls (b:Nat) (p v:Value) (n:Nat) (xs:List Value) (s:ByteArray) (w:World) (hp:p= .pointer none∨p= .pointer (some ⟨b,0,none⟩)) (hbk:w.heap[b]? =some (.cells #[p,v] 214 (0,0)))
 (hown:w.ownsRow 0 5 1 v n xs) (hne:v.ownBlock≠some b) (hlen:n+s.size≤140737488355328):
 Calls Tryz.prog 120 #[.pointer (some ⟨b,0,none⟩),.string s] w fun e w'=>e= .returned (.tuple #[.int .i64 s.size,.nilIface])∧ ∃v',w'.heap[b]? =some (.cells #[.pointer (some ⟨b,0,none⟩),v'] 214 (0,0))∧
  w'.ownsRow 0 5 1 v' (n+s.size) (xs++Lib.strCells s)∧(v'.ownBlock=v.ownBlock∨v'.ownBlock=some w.heap.size)∧bV w w' (fun k=>k=b∨v.ownBlock=some k):=by
 have hi0: ∃i,Tryz.prog.info? 5=some i∧i.zero=some (.int .u8 0)∧i.size=1∧i.bytes=1:=⟨_,rfl,rfl,rfl,rfl⟩
 obtain ⟨i0,hi,hz0,hz1,hz2⟩:=hi0
 have hlt:b<w.heap.size:=by
  rcases Nat.lt_or_ge b w.heap.size with h'|h'
  ·exact h'
  ·simp [Array.getElem?_eq_none h'] at hbk
 go_enter Tryz.func120,Tryz.ntmps120
 go_wp2_with (go_at_call 168;refine (cc_any b p v _ hp hbk).mono ?_)
 rintro e w1 ⟨rfl,hbk1,hsz1,T1⟩
 have hown1:w1.ownsRow 0 5 1 v n xs:=hown.kept (row:=some b) ⟨T1.os,T1.tape,T1.output,T1.size,fun k hk hk2=>T1.block k hk (fun e=>hk2 (by simp [e]))⟩ (.inr hne)
 have c0:w1.cell? ⟨b,0,none⟩=some (.pointer (some ⟨b,0,none⟩)):=by rw [Lib.cell_of_heap hbk1];rfl
 have c1:w1.cell? ⟨b,1,none⟩=some v:=by rw [Lib.cell_of_heap hbk1];rfl
 go_wp2_with (at_builtin;refine wpList_append_str rfl _ _ 212 9 rfl 5 i0 Tryz.underlying212 Tryz.underlying9 hi hz0 hz1 hz2 _ _ _ rfl hown1 s rfl hlen ?_)
 intro v' w2 hown' hgrow hblk
 have hb2:w2.heap[b]? =some (.cells #[.pointer (some ⟨b,0,none⟩),v] 214 (0,0)):=by
  rw [hgrow.block b (by omega) (fun e=>hne e.symm)]
  exact hbk1
 have d0:w2.cell? ⟨b,0,none⟩=some (.pointer (some ⟨b,0,none⟩)):=by rw [Lib.cell_of_heap hb2];rfl
 have d1:w2.cell? ⟨b,1,none⟩=some v:=by rw [Lib.cell_of_heap hb2];rfl
 have f1:w2.frozen? ⟨b,1,none⟩=false:=Lib.frozen_of_heap hb2 1
 have hne':v'.ownBlock≠some b:=by
  rcases hblk with h|h
  ·rw [h];exact hne
  ·rw [h];intro e;injection e;omega
 obtain ⟨ao,n',cap,rfl⟩: ∃ao n' cap,v'= .slice ao n' cap:=by
  rcases hown'.2 with ⟨hv,_⟩|⟨g,cap,cur,hv,_⟩
  ·exact ⟨_,_,_,hv⟩
  ·exact ⟨_,_,_,hv⟩
 go_wp2
 go_ret2
 refine ⟨rfl,_,?_,hown'.kept (row:=some b) ⟨rfl,rfl,rfl,by simp [World.setCell],fun k _ hk=>Below.heap_setCell _ _ _ _ (fun e=>hk (by simp [e]))⟩ (.inr hne'),hblk,?_⟩
 ·simp [World.setCell,Array.getElem?_modify,hb2]
 ·refine ⟨hgrow.os.trans T1.os,hgrow.tape.trans T1.tape,hgrow.output.trans T1.output,Nat.le_trans T1.size (Nat.le_trans hgrow.size (by simp [World.setCell])),fun k hk hno=> ?_⟩
  rw [Below.heap_setCell _ _ _ _ (fun e=>hno (.inl e)),hgrow.block k (Nat.lt_of_lt_of_le hk T1.size) (fun e=>hno (.inr e.symm)),T1.block k hk (fun e=>hno (.inl e))]
set_option maxHeartbeats 2000000 in
set_option maxRecDepth 100000 in
theorem st_calls (b:Nat) (p v:Value) (l:List UInt8) (w:World) (hbk:w.heap[b]? =some (.cells #[p,v] 214 (0,0))) (hown:w.ownsRow 0 5 1 v l.length (Lib.byteCells l)) (h0:l≠[]):
 Calls Tryz.prog 123 #[.pointer (some ⟨b,0,none⟩)] w fun e w'=>e= .returned (.string ⟨l.toArray⟩)∧w'.heap[b]? =some (.cells #[p,v] 214 (0,0))∧bV w w' (fun k=>v.ownBlock=some k):=by
 have hl0:l.length≠0:=by simpa using h0
 obtain ⟨g,cap,cur,rfl,hbg,hg,hnc,hcm,hcs,htake⟩: ∃g cap cur,v= .slice (some ⟨g,0,none⟩) l.length cap∧0≤g∧w.heap[g]? =some (.cells cur 5 (0,0))∧l.length≤cap∧cap≤maxLen∧cur.size=cap*1∧cur.toList.take (l.length*1)=Lib.byteCells l:=by
  rcases hown.2 with ⟨_,hz⟩|⟨g,cap,cur,hv,r⟩
  ·exact absurd hz hl0
  ·exact ⟨g,cap,cur,hv,r⟩
 have hgb:g≠b:=by
  intro e
  rw [e,hbk] at hg
  injection hg with hg
  injection hg with _ hg
  exact absurd hg (by decide)
 have c1:w.drew.cell? ⟨b,1,none⟩=some (.slice (some ⟨g,0,none⟩) l.length cap):=by
  have:w.drew.heap[b]? =some (.cells #[p,.slice (some ⟨g,0,none⟩) l.length cap] 214 (0,0)):=hbk
  rw [Lib.cell_of_heap this];rfl
 have hSD:(Builtin.unsafeSliceData_ #[212] 264 #[.slice (some ⟨g,0,none⟩) l.length cap]).run Tryz.prog w.drew= .ok (.pointer (some ⟨g,0,none⟩)) w.drew:=
  Lib.run_unsafeSliceData_row _ _ _ _ _ _ (by omega)
 have hUS:(Builtin.unsafeString_ #[264,3] 9 #[.pointer (some ⟨g,0,none⟩),.int .i64 l.length]).run Tryz.prog w.drew= .ok (.string ⟨l.toArray⟩) (w.drew.freeze ⟨g,0,none⟩ l.length):=by
  refine Lib.run_unsafeString_row w.drew 264 3 9 5 Tryz.underlying264 (by kernel_rfl) g cur.size (by have hg':w.drew.heap[g]? =some (.cells cur 5 (0,0)):=hg;simp [World.shape?,hg']) l h0 (by omega) (by unfold maxLen at hcm;omega) ?_
  intro j x hx
  exact hown.cells (g:=g) rfl j (.int .u8 x.toNat) (by simp [Lib.byteCells,hx])
 go_enter Tryz.func123,Tryz.ntmps123
 go_wp2
 go_region
 all_goals (go_wp2;go_ret;refine ⟨rfl,?_,?_⟩)
 all_goals first
  |(show (w.drew.freeze ⟨g,0,none⟩ l.length).heap[b]? =_
    unfold World.freeze
    rw [if_neg hl0]
    simp only [Array.getElem?_modify]
    rw [if_neg hgb]
    exact hbk)
  |(refine ⟨?_,?_,?_,?_,fun k hk hno=> ?_⟩
    ·unfold World.freeze;rw [if_neg hl0];rfl
    ·unfold World.freeze;rw [if_neg hl0];rfl
    ·unfold World.freeze;rw [if_neg hl0];rfl
    ·unfold World.freeze;rw [if_neg hl0];simp
    ·unfold World.freeze
     rw [if_neg hl0]
     simp only [Array.getElem?_modify]
     rw [if_neg (fun e=>hno (by simp [Value.ownBlock,e]))]
     rfl)
theorem bwrite_120 {a0:AV} (h0:BdAt a0) (t s:Str) (hs:0<s.length∧t.length+s.length≤140737488355328):
 du Tryz.prog 120 [.var 214 [a0,.row 1 (t.map byteU).length],.row 5 1 (t.map byteU)] [.ptr 0 0,.v (.string (bs s))] (fun r H'=>r= .tup [.v (.int .i64 (s.length:Int)),.v .nilIface]∧
  H'.take ([.var 214 [.ptr 0 0,.row 1 ((t++s).map byteU).length],.row 5 1 ((t++s).map byteU)]:List Ob).length=[.var 214 [.ptr 0 0,.row 1 ((t++s).map byteU).length],.row 5 1 ((t++s).map byteU)]):=
 callP_bwrite' (dy Tryz.func120 rfl (by kernel_rfl)) ws_calls h0 t s hs
theorem bstr_123 (a0:AV) (t:Str) (ht:0<t.length):
 du Tryz.prog 123 [.var 214 [a0,.row 1 (t.map byteU).length],.row 5 1 (t.map byteU)] [.ptr 0 0] (fun r H'=>r= .v (.string (bs t))∧H'.take ([.gone,.gone]:List Ob).length=[.gone,.gone]):=
 callP_bstring (dy Tryz.func123 rfl (by kernel_rfl)) st_calls a0 t ht
end
section
open Go.RowKit Go.Extern.Stop Go.Stop Go.Extern
theorem as_nil (t:Value) (w:World):Calls Tryz.prog 127 #[.nilIface,t] w fun e w'=>e= .returned (.bool false)∧w'=w:=by
 go_enter Tryz.func127,Tryz.ntmps127
 go_wp2
 go_ret
 exact ⟨rfl,rfl⟩
theorem as_valueOfP (t:Addr) (w:World):(Extern.ReflectliteValue.unpack (.iface 226 (.pointer (some t)))).run Tryz.prog w
 = .ok (.agg #[.pointer (some ⟨1,226,none⟩),.pointer (some ⟨w.heap.size,0,none⟩),.int .u64 150]) (w.alloc (.cells #[.pointer (some t)] 226)):=by kernel_rfl
theorem as_typeP (a:Addr) (w:World):(Extern.ReflectliteValue.methodAny (Extern.ReflectliteValue.valueError "reflectlite.Value.Type" 0) (fun t _ _ _=>Extern.ReflectliteType.toType t) #[.agg #[.pointer (some ⟨1,226,none⟩),.pointer (some a),.int .u64 150]]).run Tryz.prog w
 = .ok (.iface 302 (.agg #[.pointer (some ⟨1,226,none⟩)])) w:=by kernel_rfl
theorem as_mK (h:Value) (w:World):(Go.method 471 302 (.agg #[h]) "Kind").run Tryz.prog w= .ok (253,h) w:=by kernel_rfl
theorem as_kindP (w:World):((Extern.ReflectliteType.abiMethod fun t=>(fun a:Nat=>Value.int IntKind.u8 (a:Int)) <$> Extern.Rtype.kind t) #[.pointer (some ⟨1,226,none⟩)]).run Tryz.prog w= .ok (.int .u8 22) w:=by kernel_rfl
theorem as_kindT (w:World):((Extern.ReflectliteType.abiMethod fun t=>(fun a:Nat=>Value.int IntKind.u8 (a:Int)) <$> Extern.Rtype.kind t) #[.pointer (some ⟨1,224,none⟩)]).run Tryz.prog w= .ok (.int .u8 25) w:=by kernel_rfl
theorem as_rlm (z:Sem Value) (f:TypeId→Addr→Nat→Nat→Sem Value) (v:Value):
 Extern.ReflectliteValue.method z f #[v]=(do match ←Extern.ReflectliteValue.parts v with|none=>z|some (t,a,fl)=>f t a fl (fl%32)):=rfl
theorem as_partsP (a:Addr) (w:World):(Extern.ReflectliteValue.parts (.agg #[.pointer (some ⟨1,226,none⟩),.pointer (some a),.int .u64 150])).run Tryz.prog w= .ok (some (226,a,150)) w:=by kernel_rfl
theorem as_isNil (a p:Addr) (W:World) (ha:W.cell? a=some (.pointer (some p))):
 (Extern.ReflectliteValue.method (Extern.ReflectliteValue.valueError "reflectlite.Value.IsNil" 0) Extern.ReflectliteValue.isNil #[.agg #[.pointer (some ⟨1,226,none⟩),.pointer (some a),.int .u64 150]]).run Tryz.prog W= .ok (.bool false) W:=by
 rw [as_rlm]
 simp only [Sem.run_bind,as_partsP,Result.andThen]
 simp [Extern.ReflectliteValue.isNil,loadVar,isAgg,underlying,Tryz.underlying226,ha,Result.andThen]
theorem as_mE (h:Value) (w:World):(Go.method 471 302 (.agg #[h]) "Elem").run Tryz.prog w= .ok (266,.agg #[h]) w:=by kernel_rfl
theorem as_mI (h:Value) (w:World):(Go.method 471 302 (.agg #[h]) "Implements").run Tryz.prog w= .ok (267,.agg #[h]) w:=by kernel_rfl
theorem as_mA (h:Value) (w:World):(Go.method 471 302 (.agg #[h]) "AssignableTo").run Tryz.prog w= .ok (264,.agg #[h]) w:=by kernel_rfl
theorem as_elemP (w:World):(Extern.ReflectliteType.method Extern.ReflectliteType.elem #[.agg #[.pointer (some ⟨1,226,none⟩)]]).run Tryz.prog w= .ok (.iface 302 (.agg #[.pointer (some ⟨1,224,none⟩)])) w:=by kernel_rfl
theorem as_implT (w:World):(Extern.ReflectliteType.relation "Implements" Extern.ReflectliteType.implements_ #[.agg #[.pointer (some ⟨1,224,none⟩)],.iface 302 (.agg #[.pointer (some ⟨1,157,none⟩)])]).run Tryz.prog w= .ok (.bool true) w:=by kernel_rfl
theorem as_typeOfT (v:Value) (w:World):(Extern.ReflectliteType.typeOf #[.iface 224 v]).run Tryz.prog w= .ok (.iface 302 (.agg #[.pointer (some ⟨1,224,none⟩)])) w:=by kernel_rfl
theorem as_assT (w:World):(Extern.ReflectliteType.relation "AssignableTo" Extern.ReflectliteType.assignableTo #[.agg #[.pointer (some ⟨1,224,none⟩)],.iface 302 (.agg #[.pointer (some ⟨1,224,none⟩)])]).run Tryz.prog w= .ok (.bool true) w:=by kernel_rfl
theorem as_valueOfT (x y:Value) (hx:x.oneCell'=true) (hy:y.oneCell'=true) (w:World):(Extern.ReflectliteValue.unpack (.iface 224 (.agg #[x,y]))).run Tryz.prog w
 = .ok (.agg #[.pointer (some ⟨1,224,none⟩),.pointer (some ⟨w.heap.size,0,none⟩),.int .u64 153]) (w.alloc (.cells #[x,y] 224)):=by kernel_rfl
theorem as_elemOfP (w:World):(Extern.Rtype.elem? 226).run Tryz.prog w= .ok (some 224) w:=by kernel_rfl
theorem as_mkT (p:Addr) (w:World):(Extern.ReflectliteValue.mk 224 p Extern.ReflectliteValue.flagAddr).run Tryz.prog w= .ok (.agg #[.pointer (some ⟨1,224,none⟩),.pointer (some p),.int .u64 409]) w:=by kernel_rfl
theorem as_elemV (a p:Addr) (W:World) (ha:W.cell? a=some (.pointer (some p))):
 (Extern.ReflectliteValue.method (Extern.ReflectliteValue.valueError "reflectlite.Value.Elem" 0) Extern.ReflectliteValue.elem #[.agg #[.pointer (some ⟨1,226,none⟩),.pointer (some a),.int .u64 150]]).run Tryz.prog W
   = .ok (.agg #[.pointer (some ⟨1,224,none⟩),.pointer (some p),.int .u64 409]) W:=by
 rw [as_rlm]
 simp only [Sem.run_bind,as_partsP,Result.andThen]
 simp [Extern.ReflectliteValue.elem,loadVar,isAgg,underlying,Tryz.underlying226,ha,Result.andThen,as_elemOfP,as_mkT]
theorem as_rls (v x:Value):Extern.ReflectliteValue.set #[v,x]=(do
 let (some (dst,a,fl),some (src,b,_)):=(←Extern.ReflectliteValue.parts v,←Extern.ReflectliteValue.parts x)
  |unsupported (.noEntry "extern/(internal/reflectlite.Value).Set.zeroValue")
 if fl / Extern.ReflectliteValue.flagAddr%2 == 0 then unsupported (.noEntry "extern/(internal/reflectlite.Value).Set.unaddressable")
 let val ←loadVar src b
 if ←Extern.Rtype.directlyAssignable dst src then storeVar dst a val
 else if ←Extern.Rtype.implements dst src then
  if (←Extern.Rtype.kind src) == 20 then
   match val with
   | .nilIface=>unsupported (.noEntry "extern/reflectlite: a nil value of one interface type handed on as a value of another")
   |_=>storeVar dst a val
  else storeVar dst a (.iface src val)
 else panicString ("reflectlite.Set: value of type " ++(←Extern.Rtype.spelt src)++ " is not assignable to type " ++(←Extern.Rtype.spelt dst))
 pure (.tuple #[])):=rfl
theorem as_partsTa (a:Addr) (w:World):(Extern.ReflectliteValue.parts (.agg #[.pointer (some ⟨1,224,none⟩),.pointer (some a),.int .u64 409])).run Tryz.prog w= .ok (some (224,a,409)) w:=by kernel_rfl
theorem as_partsT (a:Addr) (w:World):(Extern.ReflectliteValue.parts (.agg #[.pointer (some ⟨1,224,none⟩),.pointer (some a),.int .u64 153])).run Tryz.prog w= .ok (some (224,a,153)) w:=by kernel_rfl
theorem as_direct (w:World):(Extern.Rtype.directlyAssignable 224 224).run Tryz.prog w= .ok true w:=by kernel_rfl
theorem as_size (w:World):(sizeOf 224).run Tryz.prog w= .ok 2 w:=by kernel_rfl
theorem as_isAgg (w:World):(isAgg 224).run Tryz.prog w= .ok true w:=by kernel_rfl
theorem as_set (g b:Nat) (x y:Value) (cur:Array Value) (W:World) (hx:x.oneCell'=true) (hy:y.oneCell'=true) (hb:W.heap[b]? =some (.cells #[x,y] 224 (0,0))) (hg:W.heap[g]? =some (.cells cur 224 (0,0))) (hc:cur.size=2):
 (Extern.ReflectliteValue.set #[.agg #[.pointer (some ⟨1,224,none⟩),.pointer (some ⟨g,0,none⟩),.int .u64 409],.agg #[.pointer (some ⟨1,224,none⟩),.pointer (some ⟨b,0,none⟩),.int .u64 153]]).run Tryz.prog W
   = .ok (.tuple #[]) (W.setRow g #[x,y]):=by
 have hld:=run_loadCells_list (P:=Tryz.prog) (w:=W) ⟨b,0,none⟩ [x,y] (fun j u hj=>by
  rw [Addr.add_lit,Lib.cell_of_heap hb]
  simpa using hj)
 have hst:=run_storeCells_at Tryz.prog g 0 224 [x,y] 0 cur W hg (by simp [hc]) (by simp [hx,hy])
 have hcv:(Value.agg #[x,y]).cells= #[x,y]:=by kernel_rfl
 have hdrop:cur.toList.drop 2=[]:=List.drop_eq_nil_of_le (by simp [hc])
 rw [as_rls]
 simp only [Sem.run_bind,as_partsTa,as_partsT,Result.andThen]
 simp at hld hst
 simp [Extern.ReflectliteValue.flagAddr,loadVar,as_isAgg,as_size,hld,Result.andThen,as_direct,storeVar,hcv,hst,hdrop]
set_option maxHeartbeats 8000000 in
set_option maxRecDepth 100000 in
theorem as_hit (g:Nat) (x y:Value) (cur:Array Value) (w:World) (hx:x.oneCell'=true) (hy:y.oneCell'=true) (hG:w.cell? ⟨0,0,none⟩=some (.iface 302 (.agg #[.pointer (some ⟨1,157,none⟩)]))) (hg:w.heap[g]? =some (.cells cur 224 (0,0))) (hc:cur.size=2):
 Calls Tryz.prog 127 #[.iface 224 (.agg #[x,y]),.iface 226 (.pointer (some ⟨g,0,none⟩))] w fun ev w'=>ev= .returned (.bool true)∧w'.heap[g]? =some (.cells #[x,y] 224 (0,0))∧bV w w' (fun k=>k=g):=by
 have h6:= @run_callFunc_extern Tryz.prog 172 _ (fun args=>Extern.ReflectliteValue.unpack (args.getD 0 (.tuple #[]))) Tryz.func172 (by kernel_rfl) (by kernel_rfl) (by kernel_rfl) (by kernel_rfl)
 have h7:= @run_callFunc_extern Tryz.prog 173 _ (Extern.ReflectliteValue.methodAny (Extern.ReflectliteValue.valueError "reflectlite.Value.Type" 0) (fun t _ _ _=>Extern.ReflectliteType.toType t)) Tryz.func173 (by kernel_rfl) (by kernel_rfl) (by kernel_rfl) (by kernel_rfl)
 have h8:= @run_callFunc_extern Tryz.prog 174 _ (Extern.ReflectliteValue.method (Extern.ReflectliteValue.valueError "reflectlite.Value.IsNil" 0) Extern.ReflectliteValue.isNil) Tryz.func174 (by kernel_rfl) (by kernel_rfl) (by kernel_rfl) (by kernel_rfl)
 have h27:= @run_callFunc_extern Tryz.prog 253 _ (Extern.ReflectliteType.abiMethod fun t=>do pure (.int .u8 (←Extern.Rtype.kind t))) Tryz.func253 (by kernel_rfl) (by kernel_rfl) (by kernel_rfl) (by kernel_rfl)
 have h37:= @run_callFunc_extern Tryz.prog 266 _ (Extern.ReflectliteType.method Extern.ReflectliteType.elem) Tryz.func266 (by kernel_rfl) (by kernel_rfl) (by kernel_rfl) (by kernel_rfl)
 have h38:= @run_callFunc_extern Tryz.prog 267 _ (Extern.ReflectliteType.relation "Implements" Extern.ReflectliteType.implements_) Tryz.func267 (by kernel_rfl) (by kernel_rfl) (by kernel_rfl) (by kernel_rfl)
 have h10:= @run_callFunc_extern Tryz.prog 176 _ Extern.ReflectliteType.typeOf Tryz.func176 (by kernel_rfl) (by kernel_rfl) (by kernel_rfl) (by kernel_rfl)
 have h35:= @run_callFunc_extern Tryz.prog 264 _ (Extern.ReflectliteType.relation "AssignableTo" Extern.ReflectliteType.assignableTo) Tryz.func264 (by kernel_rfl) (by kernel_rfl) (by kernel_rfl) (by kernel_rfl)
 have h11:= @run_callFunc_extern Tryz.prog 205 _ (Extern.ReflectliteValue.method (Extern.ReflectliteValue.valueError "reflectlite.Value.Elem" 0) Extern.ReflectliteValue.elem) Tryz.func205 (by kernel_rfl) (by kernel_rfl) (by kernel_rfl) (by kernel_rfl)
 have h12:= @run_callFunc_extern Tryz.prog 206 _ Extern.ReflectliteValue.set Tryz.func206 (by kernel_rfl) (by kernel_rfl) (by kernel_rfl) (by kernel_rfl)
 have tO:=as_typeOfT
 have mA:=as_mA
 have a25:=as_assT
 have v25:=as_valueOfT x y hx hy
 have f6:=as_valueOfP
 have f7:=as_typeP
 have mK:=as_mK
 have mE:=as_mE
 have mI:=as_mI
 have k27:=as_kindP
 have k25:=as_kindT
 have e27:=as_elemP
 have i25:=as_implT
 have hlt:0<w.heap.size:=by
  rcases Nat.eq_zero_or_pos w.heap.size with h0|h
  ·simp [World.cell?,h0] at hG
  ·exact h
 have hgl:g<w.heap.size:=(Array.getElem?_eq_some_iff.1 hg).1
 have n8:=as_isNil ⟨w.heap.size,0,none⟩ ⟨g,0,none⟩ ((w.alloc (.cells #[.pointer (some ⟨g,0,none⟩)] 226)).alloc (.cells #[.pointer (some ⟨1,226,none⟩),.pointer (some ⟨w.heap.size,0,none⟩),.int .u64 150] 271)) (by simp)
 have hg2:((w.alloc (.cells #[.pointer (some ⟨g,0,none⟩)] 226)).alloc (.cells #[.pointer (some ⟨1,226,none⟩),.pointer (some ⟨w.heap.size,0,none⟩),.int .u64 150] 271)).cell? ⟨0,0,none⟩=some (.iface 302 (.agg #[.pointer (some ⟨1,157,none⟩)])):=by
  rw [World.cell?_alloc_lt _ _ ⟨0,0,none⟩ (by simp),World.cell?_alloc_lt _ _ ⟨0,0,none⟩ hlt];exact hG
 have el:=as_elemV ⟨w.heap.size,0,none⟩ ⟨g,0,none⟩ (((w.alloc (.cells #[.pointer (some ⟨g,0,none⟩)] 226)).alloc (.cells #[.pointer (some ⟨1,226,none⟩),.pointer (some ⟨w.heap.size,0,none⟩),.int .u64 150] 271)).alloc (.cells #[.pointer (some ⟨1,226,none⟩),.pointer (some ⟨w.heap.size,0,none⟩),.int .u64 150] 271)) (by rw [World.cell?_alloc_lt _ _ ⟨w.heap.size,0,none⟩ (by simp;omega)];simp)
 have hgW:((((w.alloc (.cells #[.pointer (some ⟨g,0,none⟩)] 226)).alloc (.cells #[.pointer (some ⟨1,226,none⟩),.pointer (some ⟨w.heap.size,0,none⟩),.int .u64 150] 271)).alloc (.cells #[.pointer (some ⟨1,226,none⟩),.pointer (some ⟨w.heap.size,0,none⟩),.int .u64 150] 271)).alloc (.cells #[x,y] 224)).heap[g]? =some (.cells cur 224 (0,0)):=by
  rw [Lib.alloc_old _ _ g (by simp;omega),Lib.alloc_old _ _ g (by simp;omega),Lib.alloc_old _ _ g (by simp;omega),Lib.alloc_old _ _ g hgl];exact hg
 have st:=as_set g (w.heap.size+1+1+1) x y cur ((((w.alloc (.cells #[.pointer (some ⟨g,0,none⟩)] 226)).alloc (.cells #[.pointer (some ⟨1,226,none⟩),.pointer (some ⟨w.heap.size,0,none⟩),.int .u64 150] 271)).alloc (.cells #[.pointer (some ⟨1,226,none⟩),.pointer (some ⟨w.heap.size,0,none⟩),.int .u64 150] 271)).alloc (.cells #[x,y] 224)) hx hy (by have h:=heap_alloc_new (((w.alloc (.cells #[.pointer (some ⟨g,0,none⟩)] 226)).alloc (.cells #[.pointer (some ⟨1,226,none⟩),.pointer (some ⟨w.heap.size,0,none⟩),.int .u64 150] 271)).alloc (.cells #[.pointer (some ⟨1,226,none⟩),.pointer (some ⟨w.heap.size,0,none⟩),.int .u64 150] 271)) (.cells #[x,y] 224 (0,0));simpa using h) hgW hc
 have hT:bV w ((((w.alloc (.cells #[.pointer (some ⟨g,0,none⟩)] 226)).alloc (.cells #[.pointer (some ⟨1,226,none⟩),.pointer (some ⟨w.heap.size,0,none⟩),.int .u64 150] 271)).alloc (.cells #[.pointer (some ⟨1,226,none⟩),.pointer (some ⟨w.heap.size,0,none⟩),.int .u64 150] 271)).alloc (.cells #[x,y] 224)) (fun _=>False):=(((cl _ _ _).trans (cl _ _ _)).trans (cl _ _ _)).trans (cl _ _ _)
 go_enter Tryz.func127,Tryz.ntmps127
 go_wp2
 refine wp_loop_rounds 1 ?_
 rw [rounds_succ]
 go_wp2
 go_ret
 refine ⟨rfl,setRow_heap _ g cur _ 224 _ hgW,⟨hT.os,hT.tape,hT.output,?_,fun k hk hkg=> ?_⟩⟩
 ·exact Nat.le_trans hT.size (by simp [World.setRow])
 ·rw [setRow_other _ g k _ hkg];exact hT.block k hk (fun h=>h)
end
theorem as_4 (a0:Int) (o0 o1:AV):du Tryz.prog 127 [.var 224 [o0,o1]] [.ifc 224 (.agg [vI a0,.ifc 222 (.agg [])]),.ifc 226 (.ptr 0 0)] (fun r H'=>r= .v (.bool true)∧H'.take ([.var 224 [vI a0,.ifc 222 (.agg [])]]:List Ob).length=[.var 224 [vI a0,.ifc 222 (.agg [])]]):=
 callP_as (dy Tryz.func127 rfl (by kernel_rfl)) (x:=(.iface 224 (.agg #[(.int .i64 a0),(.iface 222 (.agg #[]))]))) (vals:= #[(.int .i64 a0),(.iface 222 (.agg #[]))]) (fun b us w hG hb hs=>as_hit b _ _ us w rfl rfl hG hb hs) (fun w F e v h=>conc_inv _ _ _ h rfl) rfl rfl (fun w F e j s hj=>by
  match j,hj with
  |0,hj=>cases hj;exact conc_rep _ _ rfl
  |1,hj=>cases hj;exact conc_rep _ _ rfl
  |j+2,hj=>simp at hj)
theorem is_5_T (v:Value) (w:World):(Extern.ReflectliteType.typeOf #[.iface 222 v]).run Tryz.prog w= .ok (.iface 302 (.agg #[.pointer (some ⟨1,222,none⟩)])) w:=by kernel_rfl
theorem is_5_C (w:World):((Extern.ReflectliteType.method fun t=>(do Go.Extern.Rtype.noPackHeld "Comparable" t;(fun a=>Value.bool a.comparable) <$> typeInfo t)) #[.agg #[.pointer (some ⟨1,222,none⟩)]]).run Tryz.prog w= .ok (.bool true) w:=by kernel_rfl
theorem is_5_M (v:Value) (w:World):(Go.method 471 302 v "Comparable").run Tryz.prog w= .ok (265,v) w:=by kernel_rfl
theorem is_5_0_I (v:Value) (xT:TypeId) (w:World):(Instr.typeAssert (.iface 224 v) xT 314 true).run Tryz.prog w= .ok (.tuple #[.nilIface,.bool false]) w:=run_typeAssert_lacksB Tryz.underlying314 (by kernel_rfl) (by kernel_rfl) v xT w
theorem is_5_0_U (v:Value) (xT:TypeId) (w:World):(Instr.typeAssert (.iface 224 v) xT 309 true).run Tryz.prog w= .ok (.tuple #[.iface 224 v,.bool true]) w:=run_typeAssert_hasB Tryz.underlying309 (by kernel_rfl) v xT w
theorem is_5_0_N (v:Value) (w:World):(Go.method 471 224 v "Unwrap").run Tryz.prog w= .ok (259,v) w:=by kernel_rfl
theorem is_5_1_E (w:World):(binOp .eql 157 (.iface 222 (.agg #[])) (.iface 222 (.agg #[]))).run Tryz.prog w= .ok (.bool true) w:=by kernel_rfl
theorem is_5_calls (a0:Int) (w:World):Calls Tryz.prog 128 #[(.iface 224 (.agg #[(.int .i64 a0),(.iface 222 (.agg #[]))])),(.iface 222 (.agg #[]))] w fun en w'=>en= .returned (.bool true)∧bV w w' (fun _=>False):=by
 have h1:= @run_callFunc_extern Tryz.prog 176 _ Extern.ReflectliteType.typeOf Tryz.func176 (by kernel_rfl) (by kernel_rfl) (by kernel_rfl) (by kernel_rfl)
 have h2:= @run_callFunc_extern Tryz.prog 265 _ (Extern.ReflectliteType.method fun t=>(do Go.Extern.Rtype.noPackHeld "Comparable" t;pure (.bool (←typeInfo t).comparable))) Tryz.func265 (by kernel_rfl) (by kernel_rfl) (by kernel_rfl) (by kernel_rfl)
 have h3:=is_5_T
 have h4:=is_5_C
 have h5:=is_5_M
 have e0:=fun v=>run_eql_iface_types (P:=Tryz.prog) 224 222 v (.agg #[]) Tryz.underlying157 (by decide)
 have i0:=is_5_0_I
 have u0:=is_5_0_U
 have n0:=is_5_0_N
 have e1:=is_5_1_E
 go_enter Tryz.func128,Tryz.ntmps128
 go_wp2
 refine wp_loop_rounds 2 ?_
 rw [rounds_succ]
 go_wp2
 rw [rounds_succ]
 go_wp2
 go_ret
 first|exact ⟨rfl,bV.refl _ _⟩|exact ⟨rfl,cl _ _ _⟩|exact ⟨rfl,(cl _ _ _).trans (cl _ _ _)⟩
theorem is_5 (a0:Int):PureP Tryz.prog 128 [.ifc 224 (.agg [vI a0,.ifc 222 (.agg [])]),.ifc 222 (.agg [])] (fun a=>a= .v (.bool true)):=pureClosed (v:= .bool true) ⟨_,Tryz.func128,by simp [Tryz.f128],by simp [Tryz.f128]⟩ rfl rfl (is_5_calls a0)
theorem as_6 (a0:Int) (o0 o1:AV):du Tryz.prog 127 [.var 224 [o0,o1]] [.ifc 224 (.agg [vI a0,.v .nilIface]),.ifc 226 (.ptr 0 0)] (fun r H'=>r= .v (.bool true)∧H'.take ([.var 224 [vI a0,.v .nilIface]]:List Ob).length=[.var 224 [vI a0,.v .nilIface]]):=
 callP_as (dy Tryz.func127 rfl (by kernel_rfl)) (x:=(.iface 224 (.agg #[(.int .i64 a0),.nilIface]))) (vals:= #[(.int .i64 a0),.nilIface]) (fun b us w hG hb hs=>as_hit b _ _ us w rfl rfl hG hb hs) (fun w F e v h=>conc_inv _ _ _ h rfl) rfl rfl (fun w F e j s hj=>by
  match j,hj with
  |0,hj=>cases hj;exact conc_rep _ _ rfl
  |1,hj=>cases hj;exact conc_rep _ _ rfl
  |j+2,hj=>simp at hj)
theorem is_7_T (v:Value) (w:World):(Extern.ReflectliteType.typeOf #[.iface 222 v]).run Tryz.prog w= .ok (.iface 302 (.agg #[.pointer (some ⟨1,222,none⟩)])) w:=by kernel_rfl
theorem is_7_C (w:World):((Extern.ReflectliteType.method fun t=>(do Go.Extern.Rtype.noPackHeld "Comparable" t;(fun a=>Value.bool a.comparable) <$> typeInfo t)) #[.agg #[.pointer (some ⟨1,222,none⟩)]]).run Tryz.prog w= .ok (.bool true) w:=by kernel_rfl
theorem is_7_M (v:Value) (w:World):(Go.method 471 302 v "Comparable").run Tryz.prog w= .ok (265,v) w:=by kernel_rfl
theorem is_7_0_I (v:Value) (xT:TypeId) (w:World):(Instr.typeAssert (.iface 224 v) xT 314 true).run Tryz.prog w= .ok (.tuple #[.nilIface,.bool false]) w:=run_typeAssert_lacksB Tryz.underlying314 (by kernel_rfl) (by kernel_rfl) v xT w
theorem is_7_0_U (v:Value) (xT:TypeId) (w:World):(Instr.typeAssert (.iface 224 v) xT 309 true).run Tryz.prog w= .ok (.tuple #[.iface 224 v,.bool true]) w:=run_typeAssert_hasB Tryz.underlying309 (by kernel_rfl) v xT w
theorem is_7_0_N (v:Value) (w:World):(Go.method 471 224 v "Unwrap").run Tryz.prog w= .ok (259,v) w:=by kernel_rfl
theorem is_7_calls (a0:Int) (w:World):Calls Tryz.prog 128 #[(.iface 224 (.agg #[(.int .i64 a0),.nilIface])),(.iface 222 (.agg #[]))] w fun en w'=>en= .returned (.bool false)∧bV w w' (fun _=>False):=by
 have h1:= @run_callFunc_extern Tryz.prog 176 _ Extern.ReflectliteType.typeOf Tryz.func176 (by kernel_rfl) (by kernel_rfl) (by kernel_rfl) (by kernel_rfl)
 have h2:= @run_callFunc_extern Tryz.prog 265 _ (Extern.ReflectliteType.method fun t=>(do Go.Extern.Rtype.noPackHeld "Comparable" t;pure (.bool (←typeInfo t).comparable))) Tryz.func265 (by kernel_rfl) (by kernel_rfl) (by kernel_rfl) (by kernel_rfl)
 have h3:=is_7_T
 have h4:=is_7_C
 have h5:=is_7_M
 have e0:=fun v=>run_eql_iface_types (P:=Tryz.prog) 224 222 v (.agg #[]) Tryz.underlying157 (by decide)
 have i0:=is_7_0_I
 have u0:=is_7_0_U
 have n0:=is_7_0_N
 go_enter Tryz.func128,Tryz.ntmps128
 go_wp2
 refine wp_loop_rounds 1 ?_
 rw [rounds_succ]
 go_wp2
 go_ret
 first|exact ⟨rfl,bV.refl _ _⟩|exact ⟨rfl,cl _ _ _⟩|exact ⟨rfl,(cl _ _ _).trans (cl _ _ _)⟩
theorem is_7 (a0:Int):PureP Tryz.prog 128 [.ifc 224 (.agg [vI a0,.v .nilIface]),.ifc 222 (.agg [])] (fun a=>a= .v (.bool false)):=pureClosed (v:= .bool false) ⟨_,Tryz.func128,by simp [Tryz.f128],by simp [Tryz.f128]⟩ rfl rfl (is_7_calls a0)
section
open Go.RowKit
set_option maxHeartbeats 4000000 in
set_option maxRecDepth 100000 in
theorem insc_grow (b q n i vb vc:Nat) (cs p:List Value) (w:World) (hi:i<n) (hbig:(n+1)*40≤140737488355328) (hcl:cs.length=n*3) (hcell: ∀j u,cs[j]? =some u→w.cell? ⟨b,q+j,none⟩=some u) (hbw:b<w.heap.size)
 (vcur:Array Value) (hv:w.heap[vb]? =some (.cells vcur 67 (0,0))) (hvc:3≤vcur.size) (hp:vcur.toList.take 3=p) (h1: ∀u∈cs,u.oneCell'=true) (h1p: ∀u∈p,u.oneCell'=true):
 Calls Tryz.prog 140 #[.slice (some ⟨b,q,none⟩) n n,.int .i64 i,.slice (some ⟨vb,0,none⟩) 1 vc] w fun e w'=>
  ∃G tl,e= .returned (.slice (some ⟨w.heap.size,0,none⟩) (n+1) G)∧n+1≤G∧G≤maxLen∧tl.length=(G - (n+1))*3∧w'.heap[w.heap.size]? =some (.cells (cs.take (i*3)++p++cs.drop (i*3)++tl).toArray 67 (0,0))∧bV w w' (fun _=>False):=by
 have hpl:p.length=3:=by rw [←hp,List.length_take];simp;omega
 have hi0: ∃j z,Tryz.prog.info? 67=some j∧j.zero=some z∧j.size=3∧j.bytes=40∧z.cells.size=3:=⟨_,_,rfl,rfl,rfl,rfl,rfl⟩
 obtain ⟨i0,z,hi0,hz0,hzs,hzb,hzc⟩:=hi0
 have hsz:(Tryz.prog.info? 67).map (·.size)=some 3:=by rw [hi0];simp [hzs]
 have hroom:n<n+1:=by omega
 have same: ∀(W:World),W.heap[b]? =w.heap[b]? → ∀k,W.cell? ⟨b,k,none⟩=w.cell? ⟨b,k,none⟩:=fun W h k=>by simp only [World.cell?,h]
 have hvw:vb<w.heap.size:=(Array.getElem?_eq_some_iff.1 hv).1
 have mixed:Tryz.prog.follows .mixedOrders=true:=by kernel_rfl
 have hz1: ¬((1:Int)=0):=by omega
 have hz2: ¬((i:Int)=(n:Int)):=by omega
 have hz3:(n:Int)<(n:Int)+1:=by omega
 have hkk:(n:Int)+1 - (i:Int)=((n+1 - i:Nat):Int):=by omega
 have hik:i+(n+1 - i)=n+1:=by omega
 have hold:(Builtin.firstCells i0.size i (.slice (some ⟨b,q,none⟩) i n)).run Tryz.prog w.drew= .ok (cs.take (i*3)).toArray w.drew:=by
  rw [hzs]
  exact run_firstCells_some w.drew 3 i ⟨b,q,none⟩ i n (cs.take (i*3)) (by rw [List.length_take];omega) (fun j v hj=>by
   rw [Addr.add_lit,same w.drew rfl]
   rw [List.getElem?_take] at hj
   split at hj
   ·exact hcell j v hj
   ·cases hj)
 obtain ⟨G,hG⟩: ∃G,G=grownCap w (n+1) n 67:=⟨_,rfl⟩
 obtain ⟨ROW,hROW⟩: ∃ROW:Array Value,ROW=(cs.take (i*3)).toArray++Builtin.zeroCells z.cells (n+1 - i)++Builtin.zeroCells z.cells (G - (n+1)):=⟨_,rfl⟩
 have hrz: ∀ty,(Builtin.append_ #[42,3] ty #[.slice (some ⟨b,q,none⟩) i n,.int .i64 ((n:Int)+1 - (i:Int))]).run Tryz.prog w=
  .ok (.slice (some ⟨w.heap.size,0,none⟩) (n+1) G) (w.drew.alloc (.cells ROW 67)):=fun ty=>by
  have h:=Lib.run_append_grow_zeros w 42 3 ty 67 i0 _ .i64 .i64 Tryz.underlying42 Tryz.underlying3 hi0 hz0 (some ⟨b,q,none⟩) i n (cs.take (i*3)) hold (n+1 - i) (by omega) (by omega) (by omega) (by omega) (by rw [hzb];omega) (by rw [hzb,hik];exact growslice_fits hroom hbig)
  rw [hik,←hG,←hROW] at h
  rw [hkk]
  exact h
 have hGn:n+1≤G:=by rw [hG];exact grownCap_ge w _ _ _
 have hGm:G≤maxLen:=by
  have:=grownCap_le_maxLen w (n+1) n 67 (by unfold maxLen;omega)
  rwa [←hG] at this
 have hG63:G≤9223372036854775807:=by unfold maxLen at hGm;omega
 have hRl:ROW.size=G*3:=by
  rw [hROW]
  simp only [Array.size_append,List.size_toArray,List.length_take,size_zeroCells,hzc]
  omega
 obtain ⟨N,hN⟩: ∃N,N=w.heap.size:=⟨_,rfl⟩
 obtain ⟨W1,hW1⟩: ∃W1,W1=w.drew.alloc (.cells ROW 67):=⟨_,rfl⟩
 rw [←hW1,←hN] at hrz
 have hW1N:W1.heap[N]? =some (.cells ROW 67 (0,0)):=by rw [hW1,hN];exact heap_alloc_new w.drew _
 have hW1o: ∀k,k<w.heap.size→W1.heap[k]? =w.heap[k]? :=fun k hk=>by rw [hW1];exact Lib.alloc_old w.drew _ k hk
 obtain ⟨row2,hrow2⟩: ∃row2,row2=(ROW.toList.take (i*3)++p++ROW.toList.drop (i*3+1*3)).toArray:=⟨_,rfl⟩
 have hr2:row2.size=G*3:=by rw [hrow2];simp [hpl];omega
 have hcpA: ∀(W:World),W.heap=W1.heap→ ∀ty dc,(Builtin.copy_ #[42,42] ty #[.slice (some ⟨N,i*3,none⟩) (n+1 - i) dc,.slice (some ⟨vb,0,none⟩) 1 vc]).run Tryz.prog W= .ok (goInt 1) (W.setRow N row2):=fun W hW ty dc=>by
  rw [hrow2]
  exact run_copy_rows (w:=W) 42 42 ty 67 3 N (i*3) (n+1 - i) dc 1 ⟨vb,0,none⟩ 1 vc p ROW 67 Tryz.underlying42 hsz (by simp only [Nat.min_def];split<;>omega) (by omega) (by rw [hW];exact hW1N) (by omega) (fun j u hj=>by
   rw [←hp,List.getElem?_take] at hj
   split at hj
   ·rw [Addr.add_lit,Lib.cell_of_heap (show W.heap[vb]? =some (.cells vcur 67 (0,0)) by rw [hW,hW1o vb hvw];exact hv)]
    simpa using hj
   ·cases hj) h1p
 obtain ⟨news,hnews⟩: ∃news,news=cs.drop (i*3):=⟨_,rfl⟩
 have hnl:news.length=(n - i)*3:=by rw [hnews,List.length_drop];omega
 obtain ⟨row3,hrow3⟩: ∃row3,row3=(row2.toList.take ((i+1)*3)++news++row2.toList.drop ((i+1)*3+(n - i)*3)).toArray:=⟨_,rfl⟩
 have hcpB: ∀(W:World),W.heap=(W1.setRow N row2).heap→ ∀ty dc sc,(Builtin.copy_ #[42,42] ty #[.slice (some ⟨N,(i+1)*3,none⟩) (n - i) dc,.slice (some ⟨b,q+i*3,none⟩) (n - i) sc]).run Tryz.prog W= .ok (goInt ((n - i:Nat):Int)) (W.setRow N row3):=fun W hW ty dc sc=>by
  rw [hrow3]
  refine run_copy_rows (w:=W) 42 42 ty 67 3 N ((i+1)*3) (n - i) dc (n - i) ⟨b,q+i*3,none⟩ (n - i) sc news row2 67 Tryz.underlying42 hsz (by simp only [Nat.min_def];split<;>omega) hnl (by rw [hW];exact setRow_heap W1 N ROW row2 67 _ hW1N) (by omega) (fun j u hj=> ?_) (fun u hu=> ?_)
  ·have hbN:b≠N:=by omega
   rw [Addr.add_lit,same W (by rw [hW,setRow_other W1 N b row2 hbN,hW1o b hbw])]
   rw [hnews,List.getElem?_drop] at hj
   rw [Nat.add_assoc]
   exact hcell _ u hj
  ·rw [hnews] at hu
   exact h1 u (List.mem_of_mem_drop hu)
 have fin: ∀w':World,w'.heap=((W1.setRow N row2).setRow N row3).heap→w'.os=w.os→w'.tape=w.tape→w'.output=w.output→ ∃tl,tl.length=(G - (n+1))*3∧w'.heap[w.heap.size]? =some (.cells (cs.take (i*3)++p++cs.drop (i*3)++tl).toArray 67 (0,0))∧bV w w' (fun _=>False):=by
  intro w' hw' ho ht hou
  refine ⟨row2.toList.drop ((n+1)*3),by rw [List.length_drop];simp [hr2];omega,?_,⟨ho,ht,hou,?_,fun k hk _=> ?_⟩⟩
  ·rw [hw',←hN,setRow_heap (W1.setRow N row2) N row2 row3 67 (0,0) (setRow_heap W1 N ROW row2 67 _ hW1N),hrow3,←hnews,show (i+1)*3+(n - i)*3=(n+1)*3 by omega]
   have e1:ROW.toList.take (i*3)=cs.take (i*3):=by
    rw [hROW]
    simp only [Array.toList_append]
    rw [List.append_assoc,List.take_append_of_le_length (by rw [List.length_take];omega),List.take_take];congr 1;omega
   have e2:row2.toList.take ((i+1)*3)=cs.take (i*3)++p:=by
    rw [hrow2,e1]
    simp only []
    rw [List.take_append_of_le_length (by rw [List.length_append,List.length_take];omega),List.take_of_length_le (by rw [List.length_append,List.length_take];omega)]
   rw [e2]
  ·rw [hw',hW1];simp [World.setRow]
  ·have hkN:k≠N:=by omega
   rw [hw',setRow_other (W1.setRow N row2) N k row3 hkN,setRow_other W1 N k row2 hkN,hW1o k hk]
 have hw1:IntKind.i64.wrap ((i:Int)+1)=(i:Int)+1:=by rw [IntKind.wrap_i64];omega
 have hb1:(0:Int)≤(i:Int)+1:=by omega
 have hin:i≤n:=by omega
 have htn:((i:Int)+1).toNat=i+1:=by omega
 have hb3:(i:Int)≤(n:Int):=by omega
 have hci: ¬(n=i):=by omega
 have hGi: ¬(G=i):=by omega
 have hGim: ¬(G=i+1):=by omega
 rw [←hN]
 have hcpC:=hcpA W1 rfl
 have hcpD:=hcpB (W1.setRow N row2).drew rfl
 clear hcpA hcpB
 clear hrow3 hnl hnews hrow2 hr2 hW1o hW1N hRl hROW hG hkk hik hold
 rw [←hN] at fin
 have ho1:W1.os=w.os:=by rw [hW1];rfl
 have ht1:W1.tape=w.tape:=by rw [hW1];rfl
 have hu1:W1.output=w.output:=by rw [hW1];rfl
 clear hW1 hN
 go_enter Tryz.func140,Tryz.ntmps140
 go_wp2_with (first
  |(at_builtin;refine wpList_append_eq rfl _ _ 42 3 rfl _ _ rfl rfl (hrz _) ?_)
  |(at_builtin;refine wpList_copy_eq rfl _ _ 42 42 rfl _ _ rfl rfl (hcpC _ _) ?_))
 go_region_law (refine step_copy_eq rfl _ _ 42 42 rfl _ _ (by simp [Act.eval,Act.put]) (by simp [Act.eval,Act.put]) (hcpD _ _ _) ?_)
 go_wp2
 go_ret
 obtain ⟨tl,q1,q2,q3⟩:=fin ((W1.setRow N row2).drew.setRow N row3) (by rfl) (by exact ho1) (by exact ht1) (by exact hu1)
 exact ⟨G,tl,rfl,hGn,hGm,q1,q2,q3⟩
theorem insc_calls (b q n i:Nat) (pv:Value) (cs p:List Value) (w:World) (hi:i<n) (hbig:(n+1)*40≤140737488355328) (hcl:cs.length=n*3) (hcell: ∀j u,cs[j]? =some u→w.cell? ⟨b,q+j,none⟩=some u) (hbw:b<w.heap.size)
 (hp:w.ownsRow 0 67 3 pv 1 p) (h1: ∀u∈cs,u.oneCell'=true) (h1p: ∀u∈p,u.oneCell'=true):
 Calls Tryz.prog 140 #[.slice (some ⟨b,q,none⟩) n n,.int .i64 i,pv] w fun e w'=> ∃v',e= .returned v'∧w'.ownsRow 0 67 3 v' (n+1) (cs.take (i*3)++p++cs.drop (i*3))∧v'.ownBlock=some w.heap.size∧bV w w' (fun _=>False):=by
 rcases hp.2 with ⟨_,h0⟩|⟨vb,vc,vcur,rfl,_,hvb,hvc,_,hvs,hvt⟩
 ·exact absurd h0 (by decide)
 have hpl:p.length=3:=by simpa using hp.1
 have hyl:(cs.take (i*3)++p++cs.drop (i*3)).length=(n+1)*3:=by
  simp only [List.length_append,List.length_take,List.length_drop];omega
 refine (insc_grow b q n i vb vc cs p w hi hbig hcl hcell hbw vcur hvb (by omega) (by simpa using hvt) h1 h1p).mono ?_
 rintro e w' ⟨G,tl,rfl,hG,hGm,htl,hh,T⟩
 refine ⟨_,rfl,⟨hyl,.inr ⟨w.heap.size,G,_,rfl,Nat.zero_le _,hh,hG,hGm,?_,?_⟩⟩,rfl,T⟩
 ·simp only [List.size_toArray,List.length_append] at hyl⊢;omega
 ·rw [←hyl];exact List.take_left
theorem insertc_140 {α:Type} (enc:α→List AV) (l:List α) (x:α) (i:Int) {op:Nat} {H:List Ob} {K:AV→List Ob→Prop} (hi:0≤i∧i<(l.length:Int)∧(l.length+1)*40≤140737488355328) (hz: ∀a,(enc a).length=3) (ho:H[op]? =some (.row 67 3 [enc x]))
 (hK:K (.row H.length ((l.take i.toNat++[x]++l.drop i.toNat).map enc).length) (H++[.row 67 3 ((l.take i.toNat++[x]++l.drop i.toNat).map enc)])):du Tryz.prog 140 H [.slc (l.map enc),.v (.int .i64 i),.row op 1] K:=by
 refine callP_insertc (dy Tryz.func140 rfl (by kernel_rfl)) insc_calls (by simpa using hi) (map_len (n:=3) hz l) ho ?_
 simpa only [List.map_append,List.map_take,List.map_drop,List.map_cons,List.map_nil] using hK
end
end Go.Ab
namespace Go.Ab
open Go.Maps Go.ChangeMaps
open Go.WideElems (Fit rg)
set_option linter.unusedVariables false
set_option linter.unusedSimpArgs false
abbrev setD (P:Program) (k e:TypeId) (es:Array MapEntry):DataW Unit:=DataW.map ((es.toList.map (rg P k (plainElem (H:=Unit) P e))).foldr DataW.insert [])
def mapI (P:Program) (k e:TypeId) (ks:List Int) (ob:Obj):Prop:=
 ks.Nodup∧ ∃(es:Array MapEntry) (clock:Nat),ob= .map es clock∧Fit P k (plainElem (H:=Unit) P e) es clock∧
  (∀x,has (setD P k e es) (.int .i64 x)=decide (x∈ks))∧ ∀x zd,x∈ks→(setD P k e es).atKey (.int .i64 x) zd= .lit (.bool true)
def insI (ks:List Int) (n:Int):List Int:=if n∈ks then ks else ks++[n]
def delI (ks:List Int) (n:Int):List Int:=ks.filter fun x=> !decide (x=n)
theorem insI_mem (ks:List Int) (n x:Int):x∈insI ks n↔x=n∨x∈ks:=by
 unfold insI
 split
 ·rename_i h
  constructor
  ·exact .inr
  ·rintro (rfl|h2)
   ·exact h
   ·exact h2
 ·simp [or_comm]
theorem insI_nodup {ks:List Int} (h:ks.Nodup) (n:Int):(insI ks n).Nodup:=by
 unfold insI
 split
 ·exact h
 ·rename_i hn
  exact List.nodup_append.2 ⟨h,by simp,fun a ha b hb=>by simp at hb;subst hb;exact fun e=>hn (e▸ha)⟩
theorem insI_len (ks:List Int) (n:Int):(insI ks n).length≤ks.length+1:=by
 unfold insI
 split
 ·omega
 ·simp
theorem delI_mem (ks:List Int) (n x:Int):x∈delI ks n↔x∈ks∧x≠n:=by simp [delI]
theorem delI_nodup {ks:List Int} (h:ks.Nodup) (n:Int):(delI ks n).Nodup:=h.filter _
section
variable {P:Program} {k e t:TypeId} {ks:List Int} {w w':World} {b:Nat}
theorem mapI.own {ob:Obj} (h:mapI P k e ks ob) (hb:w.heap[b]? =some ob) (hk:P.underlying k=some (.int .i64)): ∃D:DataW Unit,w.ownsMap P k (plainElem P e) b ks.length D∧(∀x,has D (.int .i64 x)=decide (x∈ks))∧ ∀x zd,x∈ks→D.atKey (.int .i64 x) zd= .lit (.bool true):=by
 obtain ⟨hn,es,clock,rfl,F,h1,h2⟩:=h
 have hown:w.ownsMap P k (plainElem P e) b es.size (setD P k e es):=⟨es,clock,hb,F,Nat.le_refl _,rfl⟩
 have hp:=CollectedI.perm (left:=fun _=>false) (ss:=ks) ⟨hn,fun x=>by rw [h1 x];simp⟩ hown (int_keyed hk) hk (fun _=>rfl)
 refine ⟨_,⟨es,clock,hb,F,?_,rfl⟩,h1,h2⟩
 have:=hp.length_eq
 simp [intKeys,length_sorted] at this
 omega
theorem mapI.mk {n:Nat} {D:DataW Unit} (h:w.ownsMap P k (plainElem P e) b n D) (hn:ks.Nodup) (h1: ∀x,has D (.int .i64 x)=decide (x∈ks)) (h2: ∀x zd,x∈ks→D.atKey (.int .i64 x) zd= .lit (.bool true)): ∃ob,w.heap[b]? =some ob∧mapI P k e ks ob:=by
 obtain ⟨es,clock,hb,F,_,rfl⟩:=h
 exact ⟨_,hb,hn,es,clock,rfl,F,h1,h2⟩
theorem isMap_own {n:Nat} {D:DataW Unit} (h:w.ownsMap P k (plainElem P e) b n D):IsMap D:=by
 obtain ⟨es,clock,hb,F,_,rfl⟩:=h
 exact ⟨_,rfl⟩
abbrev In64 (n:Int):Prop:= -9223372036854775808≤n∧n≤9223372036854775807
theorem wf_in {n:Int} (h:In64 n):(Lit.int .i64 n).wf=true:=by
 unfold Lit.wf
 rw [Bool.and_eq_true,decide_eq_true_eq,decide_eq_true_eq]
 exact h
end
section
variable {P:Program} {k e t:TypeId} {ks:List Int} {C:Ctx} {S:St} {a:Act} {H:List Ob} {w w':World} {F:Nat→Prop} {en:Env} {o:Oper} {K:St→Prop}
theorem Mem.pushExt (M:Mem C H w F en) {R:Obj→Prop} {x:Obj} (hr:R x):Mem C (H++[.ext R]) (w.alloc x) F (en.pushVar w.heap.size):=by
 have hlen:=M.heap.len
 have hb:(en.pushVar w.heap.size).blk H.length=w.heap.size:=by simp only [Env.pushVar];rw [←hlen];exact ba _ _ _
 refine M.change (o:=H.length) (.ext R) (by simp [Env.pushVar,hlen]) (by simp) (fun o' hn=>getElem?_push_old _ hn) (by simp) (aH.pushVar en _) (fun o' _ _=>⟨rfl,rfl⟩) (cl w _ _) ?_ ?_
 ·refine ⟨?_,x,?_,hr⟩
  ·rw [hb];intro hF;exact absurd (M.bound _ hF) (by omega)
  ·rw [hb];exact heap_alloc_new w _
 ·intro b h
  unfold ap at h
  simp at h
  rw [hb] at h
  exact .inr (by omega)
theorem Mem.setExt (M:Mem C H w F en) {i:Nat} {R R':Obj→Prop} (hi:H[i]? =some (.ext R)) (hg:w.grownBy w' (some (en.blk i))) (hx: ∃x,w'.heap[en.blk i]? =some x∧R' x):Mem C (H.set i (.ext R')) w' F en∧bS w F w' F:=by
 have hlt:i<H.length:=(List.getElem?_eq_some_iff.1 hi).1
 obtain ⟨hF,_⟩:=M.heap.ob i _ hi
 have hown:ap en H i (en.blk i):=by unfold ap;rw [hi]
 have T:bV w w' (ap en H i):=⟨hg.os,hg.tape,hg.output,hg.size,fun b hb hn=>hg.block b hb (fun e=>hn (by injection e with e;subst e;exact hown))⟩
 refine ⟨M.change (o:=i) (.ext R') (by simp [M.heap.len]) (by simp) (fun o' hn=>by rw [List.getElem?_set_ne (Ne.symm hn)]) (by simp [hlt]) (aH.refl en) (fun _ _ _=>⟨rfl,rfl⟩) T ⟨hF,hx⟩ (fun b hb=> ?_),M.later T⟩
 unfold ap at hb
 simp [hlt] at hb
 subst hb
 exact .inl hown
theorem mp_inv {i:Nat} {x:Value} (h:ch w F en (.mp i) x):x= .map (some (en.blk i)):=by cases h;rfl
theorem OpP.make (k e:TypeId) (ho:o.op= .makeMap t none) (hd:S.okD o.dst=true) (hK:putH S (S.heap++[.ext (mapI P k e [])]) o.dst (.mp S.heap.length) K):OpP P o S K:=by
 rw [putH_eq] at hK
 refine ⟨fun C a w F en Q h=> ?_⟩
 have hr:(execOp a.eval o).run P w= .ok (.value (.map (some w.heap.size))) (w.alloc (.map #[] 0)):=by
  have:(Instr.makeMap t none).run P w= .ok (.map (some w.heap.size)) (w.alloc (.map #[] 0)):=rfl
  simp [execOp,ho,this,Result.andThen]
 have hb:(en.pushVar w.heap.size).blk S.heap.length=w.heap.size:=by simp only [Env.pushVar];rw [←h.mem.heap.len];exact ba _ _ _
 have hlt:S.heap.length<(en.pushVar w.heap.size).len:=by show S.heap.length<en.len+1;rw [h.mem.heap.len];omega
 have hm:mapI P k e [] (.map #[] 0):=by
  obtain ⟨es,clock,hb,F,_,hD⟩:=World.ownsMap_made w P k (plainElem (H:=Unit) P e)
  have h1:=heap_alloc_new w (.map #[] 0)
  rw [h1] at hb
  injection hb with hb
  injection hb with hb1 hb2
  subst hb1 hb2
  exact ⟨List.nodup_nil,#[],0,rfl,F,fun x=>rfl,fun x zd hx=>by cases hx⟩
 refine goes_value hr hK (h.next (h.mem.later (cl w _ (ap en S.heap S.heap.length))) (aH.pushVar en w.heap.size) (h.mem.pushExt hm) ?_ hd)
 have:=ch.mp (w:=w.alloc (.map #[] 0)) (F:=F) hlt
 rw [hb] at this
 exact this
theorem OpP.set {m x v:Operand} {i:Nat} {n:Int} (ho:o.op= .mapUpdate t m x v) (hd:S.okD o.dst=true) (hm:S.ev m= .mp i) (hi:S.heap[i]? =some (.ext (mapI P k e ks))) (hx:S.ev x= .v (.int .i64 n)) (hv:S.ev v= .v (.bool true))
 (ht:P.underlying t=some (.map k e)) (hk:P.underlying k=some (.int .i64)) (he:P.underlying e=some .bool) (hn:In64 n∧ks.length<1073741824) (hK:putH S (S.heap.set i (.ext (mapI P k e (insI ks n)))) o.dst .dead K):OpP P o S K:=by
 rw [putH_eq] at hK
 refine ⟨fun C a w F en Q h=> ?_⟩
 have h1:=h.here.ev m
 have h2:=h.here.ev x
 have h3:=h.here.ev v
 rw [hm] at h1;rw [hx] at h2;rw [hv] at h3
 have h1:=mp_inv h1
 have h2:=h2.v_inv
 have h3:=h3.v_inv
 obtain ⟨hF,ob,hb,hmap⟩:=h.mem.heap.ob i _ hi
 obtain ⟨D,hown,d1,d2⟩:=hmap.own hb hk
 have hkey:=keyOf_int_mk (P:=P) hk (wf_in hn.1)
 obtain ⟨w',hrun,hown',hg⟩:=hown.update (int_keyed hk) ht (by unfold maxLen;omega) hkey (plainElem_bool he true)
 have hkl:WideAt.IsKeyLit (Lit.int .i64 n):=trivial
 have hmp:=isMap_own hown
 have hob:=mapI.mk (ks:=insI ks n) hown' (insI_nodup hmap.1 n) (fun y=>by
  by_cases hy:y=n
  ·subst hy;rw [has_put_same hmp hkl];simp [insI_mem]
  ·rw [has_put_other (by simpa using hy),d1];simp [insI_mem,hy]) (fun y zd hy=>by
  by_cases hyn:y=n
  ·subst hyn;rw [atKey_put_same hmp hkl]
  ·rw [atKey_put_other (by simpa using hyn)]
   exact d2 y zd (by rcases (insI_mem ks n y).1 hy with h|h;exact absurd h hyn;exact h))
 obtain ⟨M',L⟩:=h.mem.setExt hi hg hob
 have hr:(execOp a.eval o).run P w= .ok .skip w':=by
  simp [execOp,ho,h1,h2,h3,hrun,Result.andThen]
 exact goes_skip hr hK (h.next L (aH.refl en) M' .dead hd)
theorem OpP.get {m x:Operand} {i:Nat} {n:Int} (ho:o.op= .lookup t m x false) (hd:S.okD o.dst=true) (hm:S.ev m= .mp i) (hi:S.heap[i]? =some (.ext (mapI P k e ks))) (hx:S.ev x= .v (.int .i64 n))
 (ht:P.underlying t=some (.map k e)) (hk:P.underlying k=some (.int .i64)) (he:P.underlying e=some .bool) (hz: ∀w,(zeroValue e).run P w= .ok (.bool false) w) (hn:In64 n) (hK:putS S o.dst (.v (.bool (decide (n∈ks)))) K):OpP P o S K:=by
 rw [putS_eq] at hK
 refine ⟨fun C a w F en Q h=> ?_⟩
 have h1:=h.here.ev m
 have h2:=h.here.ev x
 rw [hm] at h1;rw [hx] at h2
 have h1:=mp_inv h1
 have h2:=h2.v_inv
 obtain ⟨hF,ob,hb,hmap⟩:=h.mem.heap.ob i _ hi
 obtain ⟨D,hown,d1,d2⟩:=hmap.own hb hk
 have hkey:=keyOf_int_mk (P:=P) hk (wf_in hn)
 obtain ⟨v,ps,hrun,hR⟩:=hown.lookup (int_keyed hk) ht (hz w) (plainElem_bool he false) hkey
 have hval:v= .bool (decide (n∈ks)):=by
  have hat:D.atKey (.int .i64 n) (.lit (.bool false))= .lit (.bool (decide (n∈ks))):=by
   by_cases hin:n∈ks
   ·rw [d2 n _ hin];simp [hin]
   ·rw [atKey_of_not_has (by rw [d1];simp [hin])];simp [hin]
  rw [hat] at hR
  unfold plainElem at hR
  rw [he] at hR
  cases v<;>simp at hR
  rw [hR.1]
 have hr:(execOp a.eval o).run P w= .ok (.value v) w:=by
  simp [execOp,ho,h1,h2,hrun,Result.andThen]
 rw [hval] at hr
 exact goes_value hr hK (h.next (bS.refl w F) (aH.refl en) h.mem .v hd)
theorem OpP.del {m x:Operand} {i:Nat} {n:Int} (ho:o.op= .call {callee:= .builtin .delete,args:= #[m,x],argTypes:= #[t,k]}) (hd:S.okD o.dst=true) (hm:S.ev m= .mp i) (hi:S.heap[i]? =some (.ext (mapI P k e ks))) (hx:S.ev x= .v (.int .i64 n))
 (ht:P.underlying t=some (.map k e)) (hk:P.underlying k=some (.int .i64)) (he:P.underlying e=some .bool) (hn:In64 n) (hK:putH S (S.heap.set i (.ext (mapI P k e (delI ks n)))) o.dst .dead K):OpP P o S K:=by
 rw [putH_eq] at hK
 refine ⟨fun C a w F en Q h=> ?_⟩
 have h1:=h.here.ev m
 have h2:=h.here.ev x
 rw [hm] at h1;rw [hx] at h2
 have h1:=mp_inv h1
 have h2:=h2.v_inv
 obtain ⟨hF,ob,hb,hmap⟩:=h.mem.heap.ob i _ hi
 obtain ⟨D,hown,d1,d2⟩:=hmap.own hb hk
 have hkey:=keyOf_int_mk (P:=P) hk (wf_in hn)
 obtain ⟨w',hrun,hown',ht'⟩:=hown.drop (int_keyed hk) ht hkey o.type
 have hob:=mapI.mk (ks:=delI ks n) hown' (delI_nodup hmap.1 n) (fun y=>by
  by_cases hy:y=n
  ·subst hy;rw [has_del_same];simp [delI_mem]
  ·rw [has_del_other (by simpa using hy),d1];simp [delI_mem,hy]) (fun y zd hy=>by
  obtain ⟨hy1,hy2⟩:=(delI_mem ks n y).1 hy
  rw [atKey_del_other (by simpa using hy2)]
  exact d2 y zd hy1)
 obtain ⟨M',L⟩:=h.mem.setExt hi ht'.grown hob
 have hr:(execOp a.eval o).run P w= .ok (.value (.tuple #[])) w':=by
  simp [execOp,ho,resolve,invoke,builtin,h1,h2,hrun,Result.andThen]
 exact goes_value hr hK (h.next L (aH.refl en) M' .dead hd)
end
end Go.Ab
namespace Go.Ab
open Go.Maps Go.ChangeMaps Go.RowKit Go.Sort Go.Proofs
set_option linter.unusedVariables false
set_option linter.unusedSimpArgs false
section
variable {P:Program} {C:Ctx} {H:List Ob} {w w':World} {F:Nat→Prop} {en:Env} {K:AV→List Ob→Prop}
abbrev intAV (x:Int):List AV:=[.v (.int .i64 x)]
theorem arg_one {s:AV} {vs:Array Value} (h:bA w F en [s] vs): ∃x,vs= #[x]∧ch w F en s x:=by
 obtain ⟨h1,h2⟩:=h
 have h3:=h2 0 s rfl
 refine ⟨vs.getD 0 undef,?_,h3⟩
 apply Array.ext
 ·simpa using h1
 ·intro i hi1 hi2
  simp at hi2
  subst hi2
  rw [Array.getD_eq_getD_getElem?,Array.getElem?_eq_getElem hi1]
  rfl
theorem Below.touch {w w':World} (h:Below w.heap.size w w'):bV w w' (fun _=>False):=⟨h.os,h.tape,h.output,h.size,fun b hb _=>h.block b hb⟩
theorem own_ints {base el k:Nat} {v:Value} {zs:List Int} (h:w.ownsRow base el 1 v k (zs.map (Value.int .i64))) (hF: ∀b,F b→b<base):cL w F el 1 (zs.map intAV) v∧k=zs.length:=by
 have hk:k=zs.length:=by have:=h.1;simp at this;omega
 refine ⟨⟨fun i cs hi=> ?_,?_⟩,hk⟩
 ·rw [List.getElem?_map] at hi
  cases hg:zs[i]? with
  |none=>rw [hg] at hi;cases hi
  |some z=>rw [hg] at hi;injection hi with hi;subst hi;exact ⟨rfl,rfl⟩
 ·subst hk
  rcases h.2 with ⟨rfl,h0⟩|⟨g,cap,cur,rfl,hg,hb,hcap,hmax,hsz,hcur⟩
  ·exact .inl ⟨by simpa using List.length_eq_zero_iff.1 h0,rfl⟩
  ·refine .inr ⟨g,cap,cur,by simp,fun hf=>by have:=hF g hf;omega,hb,by simpa using hsz,by simpa using hcap,hmax,fun i cs j s hi hj=> ?_⟩
   rw [List.getElem?_map] at hi
   cases hz:zs[i]? with
   |none=>rw [hz] at hi;cases hi
   |some z=>
    rw [hz] at hi;injection hi with hi;subst hi
    have hj0:j=0:=by have:=(List.getElem?_eq_some_iff.1 hj).1;simpa using this
    subst hj0
    simp at hj;subst hj
    refine ⟨.int .i64 z,?_,.v⟩
    have hlt:i<zs.length:=(List.getElem?_eq_some_iff.1 hz).1
    have e1:(cur.toList.take (zs.length*1))[i]? =some (.int .i64 z):=by rw [hcur,List.getElem?_map,hz];rfl
    rw [List.getElem?_take_of_lt (by omega)] at e1
    simpa using e1
theorem callP_keys {gk gi tm o:Nat} (hc:Callable P gk) (hK: ∀mb W,CallsIn Fence.wide 5 P gk #[.map mb] W fun e w'=>e= .returned (.func (.func gi) #[] #[.pointer (some ⟨W.heap.size,0,none⟩)])∧w'=W.alloc (.cells #[.map mb] tm))
 (hk:K (.fn (.func gi) [] [.ptr H.length 0]) (H++[.var tm [.mp o]])):du P gk H [.mp o] K:=by
 refine ⟨hc,fun C w F en vs M hr=> ?_⟩
 obtain ⟨x,rfl,hx⟩:=arg_one hr
 obtain rfl:=mp_inv hx
 refine ((callsIn_wide (n:=5)).1 (hK _ w)).mono ?_
 rintro e w' ⟨rfl,rfl⟩
 have hb:(en.pushVar w.heap.size).blk H.length=w.heap.size:=by simp only [Env.pushVar];rw [←M.heap.len];exact ba _ _ _
 have hlt:H.length<(en.pushVar w.heap.size).len:=by show H.length<en.len+1;rw [M.heap.len];omega
 have hp:=ch.ptr (w:=w.alloc (.cells #[.map (some (en.blk o))] tm)) (F:=F) (off:=0) hlt
 rw [hb] at hp
 refine ⟨_,_,_,F,en.pushVar w.heap.size,rfl,hk,M.pushVar hr,.fn rfl rfl (fun j s hj=>by simp at hj) (fun j s hj=> ?_),aH.pushVar en _,M.later (cl w _ (ap en H H.length))⟩
 cases j with
 |zero=>simp at hj;subst hj;exact hp
 |succ j=>simp at hj
theorem callP_sorted {gs gi ov oe T el:Nat} {k ev:TypeId} {ks:List Int} (hc:Callable P gs)
 (hS: ∀(lb:Array Value) (S:List Int→Prop) (N:Nat) (_:N≤maxLen) (_:N*8≤140737488355328) (w:World) (_:SeqGives Fence.wide 2 P gi lb encZ S N w),CallsIn Fence.wide 5 P gs #[.func (.func gi) #[] lb] w fun e w'=> ∃(v:Value) (ss:List Int),e= .returned v∧S ss∧
   w'.ownsRow w.heap.size el 1 v ss.length ((ss.mergeSort (fun x y=>decide (x≤y))).map encZ)∧(v= .slice none 0 0↔ss=[])∧Below w.heap.size w w')
 (hq: ∀(Bm b nn:Nat) (D0:DataW Unit) (w:World) (_:Bm<w.heap.size) (_:w.cell? ⟨Bm,0,none⟩=some (.map (some b))) (_:w.ownsMap P k (plainElem P ev) b nn D0),SeqGives Fence.wide 2 P gi #[.pointer (some ⟨Bm,0,none⟩)] encZ (fun ss=>ss.Perm (intKeys D0)) (Maps.size D0) w)
 (hki:P.underlying k=some (.int .i64)) (h1:H[ov]? =some (.var T [.mp oe])) (h2:H[oe]? =some (.ext (mapI P k ev ks))) (hl:ks.length<1073741824)
 (hK:K (.row H.length (ks.mergeSort leI).length) (H++[.row el 1 ((ks.mergeSort leI).map intAV)])):du P gs H [.fn (.func gi) [] [.ptr ov 0]] K:=by
 refine ⟨hc,fun C w F en vs M hr=> ?_⟩
 obtain ⟨x,rfl,hx⟩:=arg_one hr
 have hxv:x= .func (.func gi) #[] #[.pointer (some ⟨en.blk ov,0,none⟩)]:=by
  cases hx with
  | @fn _ _ _ _ fs cs s1 s2 r1 r2=>
    have e1:fs= #[]:=Array.size_eq_zero_iff.1 s1
    have h3:=r2 0 (.ptr ov 0) rfl
    have e2:cs= #[cs.getD 0 undef]:=by
     apply Array.ext
     ·simpa using s2
     ·intro i hi1 hi2
      simp at hi2
      subst hi2
      rw [Array.getD_eq_getD_getElem?]
      simp [Array.getElem?_eq_getElem hi1]
    rw [e1,e2,h3.ptr_inv.2]
 subst hxv
 obtain ⟨hF1,us,hb1,hs1,hr1⟩:=M.heap.ob ov _ h1
 obtain ⟨hF2,ob,hb2,hmap⟩:=M.heap.ob oe _ h2
 obtain ⟨D,hown,d1,d2⟩:=hmap.own hb2 hki
 have hcell:w.cell? ⟨en.blk ov,0,none⟩=some (.map (some (en.blk oe))):=by
  have:=mp_inv (hr1 0 _ rfl)
  simp only [World.cell?,hb1]
  have hsz:0<us.size:=by rw [hs1];simp
  rw [Array.getD_eq_getD_getElem?,Array.getElem?_eq_getElem hsz] at this
  simp at this⊢
  rw [Array.getElem?_eq_getElem hsz,this]
 have hperm:ks.Perm (intKeys D):=CollectedI.perm (left:=fun _=>false) (ss:=ks) ⟨hmap.1,fun x=>by rw [d1 x];simp⟩ hown (int_keyed hki) hki (fun _=>rfl)
 have hsize:Maps.size D=ks.length:=by
  have h3:=hperm.length_eq
  obtain ⟨es,rfl⟩:=isMap_own hown
  simp [intKeys] at h3
  simp [Maps.size];omega
 have hseq:=hq (en.blk ov) (en.blk oe) ks.length D w (Array.getElem?_eq_some_iff.1 hb1).1 hcell hown
 refine ((callsIn_wide (n:=5)).1 (hS _ _ _ (by unfold maxLen;omega) (by omega) w hseq)).mono ?_
 rintro e w' ⟨v,ss,rfl,hss,hrow,hnil,hbel⟩
 have hsort:ss.mergeSort leI=ks.mergeSort leI:=mergeSort_of_perm_i (hss.trans hperm.symm)
 have hrow':w'.ownsRow w.heap.size el 1 v ss.length ((ks.mergeSort leI).map (Value.int .i64)):=by rw [←hsort];exact hrow
 obtain ⟨hO,hlen⟩:=own_ints (F:=F) hrow' M.bound
 have T':=Below.touch hbel
 have M':=M.calm T' (fun b hb=>hb) (fun b hb=>.inl hb) (fun b hb=>Nat.lt_of_lt_of_le (M.bound b hb) T'.size)
 have hblk: ∀b,v.ownBlock=some b→w.heap.size≤b:=fun b hb=>by
  rcases hrow.2 with ⟨rfl,_⟩|⟨g,cap,cur,rfl,hg,_⟩
  ·cases hb
  ·simp only [Value.ownBlock,Option.some.injEq] at hb;omega
 obtain ⟨M2,hx2⟩:=M'.adopt hO (fun b hb ho=>by have:=ho.choose_spec.lt M.heap;have:=hblk b hb;omega) (fun b hb=>.inl (Nat.le_trans M.mod.size (hblk b hb)))
 rw [List.length_map] at M2 hx2
 exact ⟨_,v,_,F,_,rfl,hK,M2,hx2,aH.pushRow en _ _,M.later (T'.mono (own':=ap en H 0) fun _ h=>h.elim)⟩
theorem callP_sort {gq o el:Nat} {zs:List Int} {n:Nat} (hc:Callable P gq)
 (hS:(∀(blk off cap:Nat) (zs:List Int) (w:World),Holds (Value.int .i64) w blk off zs.toArray→blk<w.heap.size→zs.length<4611686018427387904→
   Calls P gq #[.slice (some ⟨blk,off,none⟩) zs.length cap] w fun e w'=>e= .returned (.tuple #[])∧ ∃n os,w'=grow (putRow (Value.int .i64) (Sort.ahead w n) blk off (zs.mergeSort fun x y=>decide (x≤y)).toArray) os)∧
   ∀(p:Option Addr) (cap:Nat) (w:World),Calls P gq #[.slice p 0 cap] w fun e w'=>e= .returned (.tuple #[])∧w'=w)
 (ho:H[o]? =some (.row el 1 (zs.map intAV))) (hn:n=zs.length) (hl:zs.length<1073741824)
 (hK:K (.tup []) (H.set o (.row el 1 ((zs.mergeSort leI).map intAV)))):du P gq H [.row o n] K:=by
 subst hn
 refine ⟨hc,fun C w F en vs M hr=> ?_⟩
 obtain ⟨x,rfl,hx⟩:=arg_one hr
 have hlt:o<H.length:=(List.getElem?_eq_some_iff.1 ho).1
 obtain ⟨hrl,hown⟩:=M.heap.ob o _ ho
 have hxv:x=en.rowv o:=by
  cases hx with
  |row hl hn hv=>exact hv.symm
  |rowold hl hn=>rw [hrl] at hn;simp at hn
 subst hxv
 obtain ⟨hcs,hown⟩:=hown
 rcases hown with ⟨h0,hv⟩|⟨b,c,us,hv,hF,hb,hsz,hle,hmx,hrep⟩
 ·have hz:zs=[]:=by simpa using h0
  subst hz
  rw [hv]
  refine (hS.2 none 0 w).mono ?_
  rintro e w' ⟨rfl,rfl⟩
  have hset:H.set o (.row el 1 ((([]:List Int).mergeSort leI).map intAV))=H:=by
   apply List.ext_getElem?
   intro i
   rw [List.getElem?_set]
   split
   ·rename_i hi;subst hi
    rw [ho];simp
   ·rfl
  rw [hset] at hK
  exact ⟨_,_,H,F,en,rfl,hK,M,.tup rfl (fun j s hj=>by simp at hj),aH.refl en,bS.refl _ F⟩
 ·rw [List.length_map] at hv hle
  rw [hv]
  have htake:us.toList.take zs.length=zs.map (Value.int .i64):=by
   apply List.ext_getElem?
   intro j
   by_cases hj:j<zs.length
   ·rw [List.getElem?_take_of_lt hj]
    obtain ⟨y,hy,hyr⟩:=hrep j (intAV zs[j]) 0 (.v (.int .i64 zs[j])) (by rw [List.getElem?_map,List.getElem?_eq_getElem hj];rfl) rfl
    rw [Nat.mul_one,Nat.add_zero] at hy
    have hyv:=hyr.v_inv
    subst hyv
    simp [hy,hj]
   ·rw [List.getElem?_take_eq_none (by omega),List.getElem?_eq_none (by simp;omega)]
  have hsort:(zs.mergeSort leI).length=zs.length:=List.length_mergeSort ..
  refine (hS.1 b 0 c zs w (holds_of_blockI hb htake) (Array.getElem?_eq_some_iff.1 hb).1 (by omega)).mono ?_
  rintro e w' ⟨rfl,m,os,rfl⟩
  have hg:=grownBy_sortedI (w:=w) (g:=b) (n:=m) (os:=os) (zs.mergeSort leI).toArray
  have hOw:=ownsRow_sortedI (w:=w) (base:=b) (g:=b) (cap:=c) (n:=m) (os:=os) hsort (Nat.le_refl _) hb hle hmx (by simpa using hsz)
  have hownb:ap en H o b:=by unfold ap;rw [ho];exact ⟨_,_,hv⟩
  have T':bV w (grow (putRow (Value.int .i64) (Sort.ahead w m) b 0 (zs.mergeSort leI).toArray) os) (ap en H o):=⟨hg.os,hg.tape,hg.output,hg.size,fun b' hb' hn'=>hg.block b' hb' (fun e=>hn' (by injection e with e;subst e;exact hownb))⟩
  have hO:cL (grow (putRow (Value.int .i64) (Sort.ahead w m) b 0 (zs.mergeSort leI).toArray) os) F el 1 ((zs.mergeSort leI).map intAV) (en.rowv o):=by
   refine ⟨fun i cs hi=> ?_,.inr ⟨b,c,_,by rw [List.length_map,hsort];exact hv,hF,heap_sortedI _ hb,by simp [Go.Sort.putCells,hsz],by rw [List.length_map,hsort];exact hle,hmx,fun i cs j s hi hj=> ?_⟩⟩
   ·rw [List.getElem?_map] at hi
    cases hgz:(zs.mergeSort leI)[i]? with
    |none=>rw [hgz] at hi;cases hi
    |some z=>rw [hgz] at hi;injection hi with hi;subst hi;exact ⟨rfl,rfl⟩
   ·rw [List.getElem?_map] at hi
    cases hgz:(zs.mergeSort leI)[i]? with
    |none=>rw [hgz] at hi;cases hi
    |some z=>
     rw [hgz] at hi;injection hi with hi;subst hi
     have hj0:j=0:=by have:=(List.getElem?_eq_some_iff.1 hj).1;simpa using this
     subst hj0
     simp at hj;subst hj
     have hlt2:i<(zs.mergeSort leI).length:=(List.getElem?_eq_some_iff.1 hgz).1
     have e1:=take_putCellsI us (zs.mergeSort leI) (by omega)
     have e2:((Go.Sort.putCells (Value.int .i64) 0 (zs.mergeSort leI).toArray us).toList.take (zs.mergeSort leI).length)[i]? =some (.int .i64 z):=by rw [e1,List.getElem?_map,hgz];rfl
     rw [List.getElem?_take_of_lt hlt2] at e2
     exact ⟨.int .i64 z,by simpa using e2,.v⟩
  have M':=M.change (e':=en) (H':=H.set o (.row el 1 ((zs.mergeSort leI).map intAV))) (o:=o) (.row el 1 ((zs.mergeSort leI).map intAV)) (by simp [M.heap.len]) (by simp) (fun o' hn'=>by rw [List.getElem?_set_ne (Ne.symm hn')]) (by simp [hlt]) (aH.refl en) (fun _ _ _=>⟨rfl,rfl⟩) T' ⟨by rw [List.length_map,hsort];simpa using hrl,hO⟩ (fun b' hb'=>.inl (by
   unfold ap at hb'⊢
   simp [hlt] at hb'
   rw [ho]
   exact hb'))
  exact ⟨_,_,_,F,en,rfl,hK,M',.tup rfl (fun j s hj=>by simp at hj),aH.refl en,M.later T'⟩
end
end Go.Ab
namespace Go.Proofs
open Go.Shelf
def Tryz.sortA180_ren:Go.Shelf.Ren:=⟨fun|5=>180|8=>210|7=>209|19=>228|20=>229|10=>219|11=>220|12=>221|13=>222|14=>223|15=>224|16=>225|17=>226|18=>227|30=>232|31=>233|32=>234|33=>235|34=>236|35=>237|40=>238|n=>n,fun|23=>104|25=>3|3=>3|32=>293|22=>104|0=>0|44=>242|46=>37|4=>4|36=>325|35=>324|41=>129|5=>5|9=>9|53=>335|57=>339|63=>341|64=>342|n=>n,fun|n=>n⟩
theorem Tryz.sortA180:Go.Proofs.SlLaysM.n5 Tryz.prog Tryz.sortA180_ren:= {
 mixed:=by kernel_rfl
 f5:=⟨Tryz.f180.name,by decide,Tryz.func180.trans (congrArg some (by kernel_rfl))⟩
 f7:=⟨Tryz.f209.name,by decide,Tryz.func209.trans (congrArg some (by kernel_rfl))⟩
 f8:=Tryz.func210.trans (congrArg some (by kernel_rfl))
 f10:=⟨Tryz.f219.name,by decide,Tryz.func219.trans (congrArg some (by kernel_rfl))⟩
 f11:=⟨Tryz.f220.name,by decide,Tryz.func220.trans (congrArg some (by kernel_rfl))⟩
 f12:=⟨Tryz.f221.name,by decide,Tryz.func221.trans (congrArg some (by kernel_rfl))⟩
 f13:=⟨Tryz.f222.name,by decide,Tryz.func222.trans (congrArg some (by kernel_rfl))⟩
 f14:=⟨Tryz.f223.name,by decide,Tryz.func223.trans (congrArg some (by kernel_rfl))⟩
 f15:=⟨Tryz.f224.name,by decide,Tryz.func224.trans (congrArg some (by kernel_rfl))⟩
 f16:=⟨Tryz.f225.name,by decide,Tryz.func225.trans (congrArg some (by kernel_rfl))⟩
 f17:=⟨Tryz.f226.name,by decide,Tryz.func226.trans (congrArg some (by kernel_rfl))⟩
 f18:=⟨Tryz.f227.name,by decide,Tryz.func227.trans (congrArg some (by kernel_rfl))⟩
 f19:=Tryz.func228.trans (congrArg some (by kernel_rfl))
 f20:=Tryz.func229.trans (congrArg some (by kernel_rfl))
 f30:=⟨Tryz.f232.name,by decide,Tryz.func232.trans (congrArg some (by kernel_rfl))⟩
 f31:=Tryz.func233.trans (congrArg some (by kernel_rfl))
 f32:=Tryz.func234.trans (congrArg some (by kernel_rfl))
 f33:=⟨Tryz.f235.name,by decide,Tryz.func235.trans (congrArg some (by kernel_rfl))⟩
 f34:=⟨Tryz.f236.name,by decide,Tryz.func236.trans (congrArg some (by kernel_rfl))⟩
 f35:=⟨Tryz.f237.name,by decide,Tryz.func237.trans (congrArg some (by kernel_rfl))⟩
 f40:=⟨Tryz.f238.name,by decide,Tryz.func238.trans (congrArg some (by kernel_rfl))⟩
 t0:=Tryz.underlying0
 a0:=Tryz.isAgg0
 z0:=Tryz.sizeOf0
 v0:=Tryz.zeroValue0
 t3:=Tryz.underlying3
 a3:=Tryz.isAgg3
 z3:=Tryz.sizeOf3
 v3:=Tryz.zeroValue3
 t4:=Tryz.underlying4
 a4:=Tryz.isAgg4
 z4:=Tryz.sizeOf4
 v4:=Tryz.zeroValue4
 t5:=Tryz.underlying5
 a5:=Tryz.isAgg5
 z5:=Tryz.sizeOf5
 v5:=Tryz.zeroValue5
 t9:=Tryz.underlying9
 a9:=Tryz.isAgg9
 z9:=Tryz.sizeOf9
 v9:=Tryz.zeroValue9
 t22:=Tryz.underlying104
 a22:=Tryz.isAgg104
 z22:=Tryz.sizeOf104
 v22:=Tryz.zeroValue104
 t23:=Tryz.underlying104
 a23:=Tryz.isAgg104
 z23:=Tryz.sizeOf104
 v23:=Tryz.zeroValue104
 t25:=Tryz.underlying3
 a25:=Tryz.isAgg3
 z25:=Tryz.sizeOf3
 v25:=Tryz.zeroValue3
 t32:=Tryz.underlying293
 a32:=Tryz.isAgg293
 z32:=Tryz.sizeOf293
 v32:=Tryz.zeroValue293
 t35:=Tryz.underlying324
 a35:=Tryz.isAgg324
 z35:=Tryz.sizeOf324
 v35:=Tryz.zeroValue324
 t36:=Tryz.underlying325
 a36:=Tryz.isAgg325
 z36:=Tryz.sizeOf325
 v36:=Tryz.zeroValue325
 t41:=Tryz.underlying129
 a41:=Tryz.isAgg129
 z41:=Tryz.sizeOf129
 v41:=Tryz.zeroValue129
 t44:=Tryz.underlying242
 a44:=Tryz.isAgg242
 z44:=Tryz.sizeOf242
 v44:=Tryz.zeroValue242
 t46:=Tryz.underlying37
 a46:=Tryz.isAgg37
 z46:=Tryz.sizeOf37
 v46:=Tryz.zeroValue37
 t53:=Tryz.underlying335
 a53:=Tryz.isAgg335
 z53:=Tryz.sizeOf335
 v53:=Tryz.zeroValue335
 t57:=Tryz.underlying339
 a57:=Tryz.isAgg339
 z57:=Tryz.sizeOf339
 v57:=Tryz.zeroValue339
 t63:=Tryz.underlying341
 a63:=Tryz.isAgg341
 z63:=Tryz.sizeOf341
 v63:=Tryz.zeroValue341
 t64:=Tryz.underlying342
 a64:=Tryz.isAgg342
 z64:=Tryz.sizeOf342
 v64:=Tryz.zeroValue342}
def Tryz.keysA133_ren:Go.Shelf.Ren:=⟨fun|7=>133|10=>181|n=>n,fun|23=>229|26=>3|3=>4|28=>232|0=>0|27=>231|33=>186|4=>4|n=>n,fun|n=>n⟩
theorem Tryz.keysA133:Go.Proofs.SlLaysZI.n7 Tryz.prog Tryz.keysA133_ren:= {
 mixed:=by kernel_rfl
 f7:=⟨Tryz.f133.name,by decide,Tryz.func133.trans (congrArg some (by kernel_rfl))⟩
 f10:=⟨Tryz.f181.name,by decide,Tryz.func181.trans (congrArg some (by kernel_rfl))⟩
 t0:=Tryz.underlying0
 a0:=Tryz.isAgg0
 z0:=Tryz.sizeOf0
 v0:=Tryz.zeroValue0
 t4:=Tryz.underlying4
 a4:=Tryz.isAgg4
 z4:=Tryz.sizeOf4
 v4:=Tryz.zeroValue4
 t23:=Tryz.underlying229
 a23:=Tryz.isAgg229
 z23:=Tryz.sizeOf229
 v23:=Tryz.zeroValue229
 t26:=Tryz.underlying3
 a26:=Tryz.isAgg3
 z26:=Tryz.sizeOf3
 v26:=Tryz.zeroValue3
 t27:=Tryz.underlying231
 a27:=Tryz.isAgg231
 z27:=Tryz.sizeOf231
 v27:=Tryz.zeroValue231
 t28:=Tryz.underlying232
 a28:=Tryz.isAgg232
 z28:=Tryz.sizeOf232
 v28:=Tryz.zeroValue232
 t33:=Tryz.underlying186
 a33:=Tryz.isAgg186
 z33:=Tryz.sizeOf186
 v33:=Tryz.zeroValue186}
def Tryz.sortedA132_ren:Go.Shelf.Ren:=⟨fun|6=>132|8=>179|9=>180|11=>208|13=>210|12=>209|23=>228|24=>229|14=>219|15=>220|16=>221|17=>222|18=>223|19=>224|20=>225|21=>226|22=>227|25=>232|26=>233|27=>234|28=>235|29=>236|30=>237|31=>238|n=>n,fun|26=>3|28=>232|24=>104|0=>0|3=>3|37=>293|48=>242|50=>37|4=>4|40=>325|39=>324|45=>129|5=>5|9=>9|51=>335|55=>339|57=>341|58=>342|33=>186|n=>n,fun|n=>n⟩
theorem Tryz.sortedA132:Go.Proofs.SlLaysZI.n6 Tryz.prog Tryz.sortedA132_ren:= {
 mixed:=by kernel_rfl
 f6:=⟨Tryz.f132.name,by decide,Tryz.func132.trans (congrArg some (by kernel_rfl))⟩
 f8:=⟨Tryz.f179.name,by decide,Tryz.func179.trans (congrArg some (by kernel_rfl))⟩
 f11:=⟨Tryz.f208.name,by decide,Tryz.func208.trans (congrArg some (by kernel_rfl))⟩
 t0:=Tryz.underlying0
 a0:=Tryz.isAgg0
 z0:=Tryz.sizeOf0
 v0:=Tryz.zeroValue0
 t24:=Tryz.underlying104
 a24:=Tryz.isAgg104
 z24:=Tryz.sizeOf104
 v24:=Tryz.zeroValue104
 t26:=Tryz.underlying3
 a26:=Tryz.isAgg3
 z26:=Tryz.sizeOf3
 v26:=Tryz.zeroValue3
 t28:=Tryz.underlying232
 a28:=Tryz.isAgg232
 z28:=Tryz.sizeOf232
 v28:=Tryz.zeroValue232
 i26:=by kernel_rfl}
end Go.Proofs
namespace Go.Ab
open Go.Proofs Go.RowKit Go.Maps Go.Sort
set_option linter.unusedVariables false
theorem sortC_180:(∀(blk off cap:Nat) (zs:List Int) (w:World),Holds (Value.int .i64) w blk off zs.toArray→blk<w.heap.size→zs.length<4611686018427387904→
 Calls Tryz.prog 180 #[.slice (some ⟨blk,off,none⟩) zs.length cap] w fun e w'=>e= .returned (.tuple #[])∧ ∃n os,w'=grow (putRow (Value.int .i64) (Sort.ahead w n) blk off (zs.mergeSort fun x y=>decide (x≤y)).toArray) os)∧
 ∀(p:Option Addr) (cap:Nat) (w:World),Calls Tryz.prog 180 #[.slice p 0 cap] w fun e w'=>e= .returned (.tuple #[])∧w'=w:=
 ⟨fun blk off cap zs w h1 h2 h3=>AnyM.slices_Sort_int Tryz.sortA180 blk off cap zs w h1 h2 h3,fun p cap w=>AnyM.slices_Sort_int_none Tryz.sortA180 p cap w⟩
theorem sort_180 {H:List Ob} {K:AV→List Ob→Prop} {o el n:Nat} {zs:List Int} (ho:H[o]? =some (.row el 1 (zs.map intAV))) (hn:n=zs.length) (hl:zs.length<1073741824)
 (hK:K (.tup []) (H.set o (.row el 1 ((zs.mergeSort leI).map intAV)))):du Tryz.prog 180 H [.row o n] K:=callP_sort (dy Tryz.func180 rfl (by kernel_rfl)) sortC_180 ho hn hl hK
theorem keysC_133: ∀(mb:Option Nat) (W:World),CallsIn Fence.wide 5 Tryz.prog 133 #[.map mb] W fun e w'=>e= .returned (.func (.func 181) #[] #[.pointer (some ⟨W.heap.size,0,none⟩)])∧w'=W.alloc (.cells #[.map mb] 229):=fun mb W=>AnyZI.keys_in Tryz.keysA133 Fence.wide 5 trivial rfl mb W
theorem keys_133 {H:List Ob} {K:AV→List Ob→Prop} {o:Nat} (hk:K (.fn (.func 181) [] [.ptr H.length 0]) (H++[.var 229 [.mp o]])):du Tryz.prog 133 H [.mp o] K:=callP_keys (dy Tryz.func133 rfl (by kernel_rfl)) keysC_133 hk
theorem seqC_181: ∀(Bm b nn:Nat) (D0:DataW Unit) (w:World) (_:Bm<w.heap.size) (_:w.cell? ⟨Bm,0,none⟩=some (.map (some b))) (_:w.ownsMap Tryz.prog 3 (plainElem Tryz.prog 4) b nn D0),SeqGives Fence.wide 2 Tryz.prog 181 #[.pointer (some ⟨Bm,0,none⟩)] encZ (fun ss=>ss.Perm (intKeys D0)) (Maps.size D0) w:=
 fun Bm b nn D0 w h1 h2 h3=>AnyZI.keys_gives (ρ:=Tryz.keysA133_ren) {Tryz.keysA133 with} Fence.wide _ trivial rfl (by omega) Bm b nn D0 w h1 h2 h3
theorem sortsA_132 (m:Nat):AnyZI.SortsIn Tryz.prog Tryz.sortedA132_ren Fence.wide m:=
 ⟨fun blk off cap ss W hH hblk hsz=>callsIn_wide.2 (sortC_180.1 blk off cap ss W hH hblk hsz),fun p cap W=>callsIn_wide.2 (sortC_180.2 p cap W)⟩
theorem sortedC_132: ∀(lb:Array Value) (S:List Int→Prop) (N:Nat) (_:N≤maxLen) (_:N*8≤140737488355328) (w:World) (_:SeqGives Fence.wide 2 Tryz.prog 181 lb encZ S N w),CallsIn Fence.wide 5 Tryz.prog 132 #[.func (.func 181) #[] lb] w fun e w'=> ∃(v:Value) (ss:List Int),e= .returned v∧S ss∧
 w'.ownsRow w.heap.size 3 1 v ss.length ((ss.mergeSort (fun x y=>decide (x≤y))).map encZ)∧(v= .slice none 0 0↔ss=[])∧Below w.heap.size w w':=
 fun lb S N hN hNb w hseq=>AnyZI.sorted_in Tryz.sortedA132 Fence.wide 5 trivial trivial trivial trivial rfl (by omega) (sortsA_132 _) (enters_of Tryz.func180 (by kernel_rfl) rfl) 181 lb trivial (enters_of Tryz.func181 (by kernel_rfl) rfl) S N hN hNb w hseq
theorem sorted_132 {H:List Ob} {K:AV→List Ob→Prop} {ov oe T:Nat} {ks:List Int} (h1:H[ov]? =some (.var T [.mp oe])) (h2:H[oe]? =some (.ext (mapI Tryz.prog 3 4 ks))) (hl:ks.length<1073741824)
 (hK:K (.row H.length (ks.mergeSort leI).length) (H++[.row 3 1 ((ks.mergeSort leI).map intAV)])):du Tryz.prog 132 H [.fn (.func 181) [] [.ptr ov 0]] K:=
 callP_sorted (dy Tryz.func132 rfl (by kernel_rfl)) sortedC_132 seqC_181 Tryz.underlying3 h1 h2 hl hK
end Go.Ab
