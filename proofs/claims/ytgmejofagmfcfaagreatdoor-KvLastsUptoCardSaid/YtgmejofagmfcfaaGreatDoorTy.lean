/- The program's data as plain Lean data, and how the machine holds it. Printed by a program of this session. -/
import Derived.Test.YtgmejofagmfcfaaGreatDoorT
import Derived.WalkKit
import Derived.LaidEql
import Derived.Stop.Asserts
import Derived.RowKitTokens
import Derived.Test.YtgmejofagmfcfaaGreatDoorStBd
namespace Go.Ab
set_option linter.unusedSimpArgs false
set_option linter.unusedVariables false
structure Write where
  Key : Str
  Val : Str
  Del : Bool
  deriving DecidableEq, Inhabited
structure Batch where
  Kind : Int
  Token : Str
  Writes : (List Write)
  deriving DecidableEq, Inhabited
structure KvOnceIn where
  Room : Int
  L : (List Batch)
  B : Batch
  Again : Batch
  deriving DecidableEq, Inhabited
structure File where
  Name : Str
  Safe : Str
  Wait : Str
  deriving DecidableEq, Inhabited
structure Disk where
  Files : (List File)
  Room : Int
  Fuse : Int
  Off : Bool
  deriving DecidableEq, Inhabited
structure Pair where
  Key : Str
  Val : Str
  deriving DecidableEq, Inhabited
structure State where
  Data : (List Pair)
  Toks : (List Pair)
  deriving DecidableEq, Inhabited
structure Store where
  D : Disk
  From : Int
  Seg : Int
  Run : Int
  S : State
  Down : Bool
  deriving DecidableEq, Inhabited
structure KvOpensIn where
  D : Disk
  From : Int
  Run : Int
  S : Str
  deriving DecidableEq, Inhabited
structure Act where
  Kind : Int
  N : Int
  B : Batch
  deriving DecidableEq, Inhabited
structure World_ where
  X : Store
  All : (List Batch)
  Sure : Int
  deriving DecidableEq, Inhabited
structure KvChecksIn where
  Room : Int
  L : (List Batch)
  Fuse : Int
  Keeps : (List Int)
  deriving DecidableEq, Inhabited
structure KvDoesIn where
  X : Store
  B : Batch
  Keeps : (List Int)
  Fuse : Int
  Other : Store
  deriving DecidableEq, Inhabited
structure table_write where
  Write : Write
  deriving DecidableEq, Inhabited
def encPair (x : Pair) : List AV := [vS x.Key, vS x.Val]
def encState (x : State) : List AV := [sL encPair x.Data, sL encPair x.Toks]
def encFile (x : File) : List AV := [vS x.Name, vS x.Safe, vS x.Wait]
def encWrite (x : Write) : List AV := [vS x.Key, vS x.Val, vB x.Del]
def enctable_write (x : table_write) : List AV := [vS x.Write.Key, vS x.Write.Val, vB x.Write.Del]
def encBatch (x : Batch) : List AV := [vI x.Kind, vS x.Token, sL encWrite x.Writes]
def encKvChecksIn (x : KvChecksIn) : List AV := [vI x.Room, sL encBatch x.L, vI x.Fuse, sL (encI .i64) x.Keeps]
def encDisk (x : Disk) : List AV := [sL encFile x.Files, vI x.Room, vI x.Fuse, vB x.Off]
def encAct (x : Act) : List AV := [vI x.Kind, vI x.N, vI x.B.Kind, vS x.B.Token, sL encWrite x.B.Writes]
def encKvOpensIn (x : KvOpensIn) : List AV := [sL encFile x.D.Files, vI x.D.Room, vI x.D.Fuse, vB x.D.Off, vI x.From, vI x.Run, vS x.S]
def encKvOnceIn (x : KvOnceIn) : List AV := [vI x.Room, sL encBatch x.L, vI x.B.Kind, vS x.B.Token, sL encWrite x.B.Writes, vI x.Again.Kind, vS x.Again.Token, sL encWrite x.Again.Writes]
def encStore (x : Store) : List AV := [sL encFile x.D.Files, vI x.D.Room, vI x.D.Fuse, vB x.D.Off, vI x.From, vI x.Seg, vI x.Run, sL encPair x.S.Data, sL encPair x.S.Toks, vB x.Down]
def encWorld_ (x : World_) : List AV := [sL encFile x.X.D.Files, vI x.X.D.Room, vI x.X.D.Fuse, vB x.X.D.Off, vI x.X.From, vI x.X.Seg, vI x.X.Run, sL encPair x.X.S.Data, sL encPair x.X.S.Toks, vB x.X.Down, sL encBatch x.All, vI x.Sure]
def encKvDoesIn (x : KvDoesIn) : List AV := [sL encFile x.X.D.Files, vI x.X.D.Room, vI x.X.D.Fuse, vB x.X.D.Off, vI x.X.From, vI x.X.Seg, vI x.X.Run, sL encPair x.X.S.Data, sL encPair x.X.S.Toks, vB x.X.Down, vI x.B.Kind, vS x.B.Token, sL encWrite x.B.Writes, sL (encI .i64) x.Keeps, vI x.Fuse, sL encFile x.Other.D.Files, vI x.Other.D.Room, vI x.Other.D.Fuse, vB x.Other.D.Off, vI x.Other.From, vI x.Other.Seg, vI x.Other.Run, sL encPair x.Other.S.Data, sL encPair x.Other.S.Toks, vB x.Other.Down]
def encA141 (x : (Str × Str)) : List AV := [vS x.1, vS x.2]
theorem iff_Pair (x y : Pair) : x = y ↔ (x.Key = y.Key ∧ x.Val = y.Val) := by cases x; cases y; simp
theorem eq_Pair (x y : Pair) : decide (x = y) = (decide (bs x.Key = bs y.Key) && (decide (bs x.Val = bs y.Val) && true)) := by
  rw [Bool.eq_iff_iff]
  simp [iff_Pair, bs_iff]
theorem iff_File (x y : File) : x = y ↔ (x.Name = y.Name ∧ x.Safe = y.Safe ∧ x.Wait = y.Wait) := by cases x; cases y; simp
theorem eq_File (x y : File) : decide (x = y) = (decide (bs x.Name = bs y.Name) && (decide (bs x.Safe = bs y.Safe) && (decide (bs x.Wait = bs y.Wait) && true))) := by
  rw [Bool.eq_iff_iff]
  simp [iff_Pair, iff_File, bs_iff]
theorem iff_Write (x y : Write) : x = y ↔ (x.Key = y.Key ∧ x.Val = y.Val ∧ x.Del = y.Del) := by cases x; cases y; simp
theorem eq_Write (x y : Write) : decide (x = y) = (decide (bs x.Key = bs y.Key) && (decide (bs x.Val = bs y.Val) && ((x.Del == y.Del) && true))) := by
  rw [Bool.eq_iff_iff]
  simp [iff_Pair, iff_File, iff_Write, bs_iff]
theorem iff_table_write (x y : table_write) : x = y ↔ (x.Write = y.Write) := by cases x; cases y; simp
theorem eq_table_write (x y : table_write) : decide (x = y) = ((decide (bs x.Write.Key = bs y.Write.Key) && (decide (bs x.Write.Val = bs y.Write.Val) && ((x.Write.Del == y.Write.Del) && true))) && true) := by
  rw [Bool.eq_iff_iff]
  simp [iff_Pair, iff_File, iff_Write, iff_table_write, bs_iff]
open Go.Proofs
set_option linter.unusedVariables false
set_option linter.unusedSimpArgs false
set_option maxRecDepth 100000
def gm0 : Gm := ⟨tys, [], [], []⟩
abbrev pP (n : FuncId) (l : List AV) (R : AV) : Prop := PureP Tryz.prog n l fun a => a = R
abbrev pH (n : FuncId) (H : List Ob) (l : List AV) (R : AV) (L : List Ob) : Prop := CallP Tryz.prog n H l fun a H' => a = R ∧ H'.take L.length = L
theorem pW0 {g : FuncId} {fn : Func} (hf : Tryz.prog.funcs[g]? = some fn) {c : Code} {l : List AV} {K : AV → Prop} (hb : fn.body = some c) (h : GG Tryz.prog gm0 → Tri Tryz.prog c ⟨fn.ntmps, 0, initRegs l, []⟩ (FinW (finP gm0 fn.results.toList K))) (hn : (fn.name == "runtime.NumGoroutine") = false := by kernel_rfl) (hl : Nat.ble l.length fn.ntmps = true := by rfl) : PureP Tryz.prog g l K := pW tyOk mixed hf hb h hn hl
theorem pC0 {g : FuncId} {fn : Func} (hf : Tryz.prog.funcs[g]? = some fn) {c : Code} {H : List Ob} {l : List AV} {K : AV → List Ob → Prop} (hb : fn.body = some c) (h : GG Tryz.prog gm0 → Tri Tryz.prog c ⟨fn.ntmps, H.length, initRegs l, H⟩ (FinW (finC gm0 fn.results.toList K))) (hn : (fn.name == "runtime.NumGoroutine") = false := by kernel_rfl) (hl : Nat.ble l.length fn.ntmps = true := by rfl) : CallP Tryz.prog g H l K := pC tyOk mixed hf hb h hn hl
theorem clone_106 (l : List File) (hl : l.length * 48 ≤ 140737488355328) : FreshP Tryz.prog 106 [.sl (List.map encFile l)] 64 3 (fun ys => ys = List.map encFile l) := by
  refine freshW (G := gm0) tyOk Tryz.func106 rfl (by kernel_rfl) (by simp [Tryz.f106]) ?_
  refine Tri.run (G := gm0) tyOk mixed ?_
  conv => whnf
  intro b hb
  conv => whnf
  refine ⟨⟨b, rfl, ?_⟩⟩
  conv => whnf
  refine cond_mk (fun c => ?_) (fun c => ?_)
  · conv => whnf
    refine fin_here ?_
    conv => whnf
    exact (hb c).symm
  · conv => whnf
    refine ⟨⟨List.map encFile ([] : List File), rfl, ?_⟩⟩
    conv => whnf
    refine ⟨rfl, ?_⟩
    conv => whnf
    refine ⟨map_len (f := encFile) (n := 3) (fun _ => rfl) _, ?_⟩
    conv => whnf
    refine ⟨by simp only [List.map_nil, List.length_nil, List.length_map, Nat.zero_add]; exact hl, ?_⟩
    conv => whnf
    refine ⟨⟨List.map encFile l, by simp, ?_⟩⟩
    conv => whnf
    refine fin_here ?_
    conv => whnf
    exact ⟨rfl, rfl⟩
theorem clone_138 (l : List Pair) (hl : l.length * 32 ≤ 140737488355328) : FreshP Tryz.prog 138 [.sl (List.map encPair l)] 90 2 (fun ys => ys = List.map encPair l) := by
  refine freshW (G := gm0) tyOk Tryz.func138 rfl (by kernel_rfl) (by simp [Tryz.f138]) ?_
  refine Tri.run (G := gm0) tyOk mixed ?_
  conv => whnf
  intro b hb
  conv => whnf
  refine ⟨⟨b, rfl, ?_⟩⟩
  conv => whnf
  refine cond_mk (fun c => ?_) (fun c => ?_)
  · conv => whnf
    refine fin_here ?_
    conv => whnf
    exact (hb c).symm
  · conv => whnf
    refine ⟨⟨List.map encPair ([] : List Pair), rfl, ?_⟩⟩
    conv => whnf
    refine ⟨rfl, ?_⟩
    conv => whnf
    refine ⟨map_len (f := encPair) (n := 2) (fun _ => rfl) _, ?_⟩
    conv => whnf
    refine ⟨by simp only [List.map_nil, List.length_nil, List.length_map, Nat.zero_add]; exact hl, ?_⟩
    conv => whnf
    refine ⟨⟨List.map encPair l, by simp, ?_⟩⟩
    conv => whnf
    refine fin_here ?_
    conv => whnf
    exact ⟨rfl, rfl⟩
theorem delete_177 (l : List File) (i j : Int) (h : 0 ≤ i ∧ i ≤ j ∧ j ≤ (l.length : Int) ∧ (l.length : Int) < 4611686018427387904 ∧ 0 < l.length) :
    EatP Tryz.prog 177 64 3 (List.map encFile l) [.v (.int .i64 i), .v (.int .i64 j)] (fun ys => ys = List.map encFile (List.take i.toNat l ++ List.drop j.toNat l)) := by
  obtain ⟨h0, h1, h2, h3, h4⟩ := h
  have hlen : (List.map encFile l).length = l.length := by simp
  refine eatW (G := gm0) tyOk Tryz.func177 rfl (by kernel_rfl) (by simp [Tryz.f177]) ?_
  refine Tri.run (G := gm0) tyOk mixed ?_
  conv => whnf
  refine ⟨rfl, ?_⟩
  conv => whnf
  refine ⟨⟨(l.length : Int), by simp, ?_⟩⟩
  conv => whnf
  refine ⟨rfl, ?_⟩
  conv => whnf
  refine ⟨⟨by simp, h0, h1, h2, by simp⟩, ?_⟩
  conv => whnf
  refine cond_mk (fun c => ?_) (fun c => ?_)
  · conv => whnf
    refine fin_here ?_
    conv => whnf
    refine ⟨rfl, ?_⟩
    have hij : i = j := by simpa using c
    subst hij
    rw [List.take_append_drop]
  · conv => whnf
    refine ⟨rfl, ?_⟩
    conv => whnf
    refine ⟨⟨(l.length : Int), by simp, ?_⟩⟩
    conv => whnf
    refine Draw.one 8 (.take 0 (.take 1 (.take 2 (.take 3 (.take 4 (.take 5 (.alt 6 (.take 7 .fin) .nil))))))) [] (by kernel_rfl) ?_
    conv => whnf
    refine ⟨⟨rfl, by rw [hlen]; exact h4⟩, ?_⟩
    conv => whnf
    refine ⟨⟨by omega, h0, by rw [hlen]; omega⟩, ?_⟩
    conv => whnf
    refine ⟨⟨rfl, by rw [hlen]; exact h4⟩, ?_⟩
    conv => whnf
    refine ⟨⟨by omega, by rw [hlen]; omega, by omega⟩, ?_⟩
    conv => whnf
    refine ⟨?_, ?_⟩
    · conv => whnf
      refine ⟨⟨rfl, rfl, rfl, by rw [hlen]; omega⟩, ?_⟩
      conv => whnf
      refine ⟨⟨_, rfl, ?_⟩⟩
      conv => whnf
      refine ⟨by simp; omega, ?_⟩
      conv => whnf
      refine ⟨⟨_, rfl, ?_⟩⟩
      conv => whnf
      refine ⟨by simp; omega, ?_⟩
      conv => whnf
      refine ⟨⟨by omega, by rw [hlen]; omega, by rw [hlen]; omega⟩, ?_⟩
      conv => whnf
      refine ⟨by simp; omega, ?_⟩
      conv => whnf
      refine ⟨⟨_, rfl, ?_⟩⟩
      conv => whnf
      refine fin_here ?_
      conv => whnf
      refine ⟨⟨rfl, by simp; omega⟩, ?_⟩
      conv => whnf
      have e1 : ((List.map encFile l).length : Int).toNat = (List.map encFile l).length := by simp
      have e2 : (((i.toNat + (((List.map encFile l).length : Int).toNat - j.toNat) - 0 : Nat) : Int)).toNat = i.toNat + ((List.map encFile l).length - j.toNat) := by omega
      rw [e2, e1, Nat.zero_add, Nat.zero_add, List.append_assoc, List.map_append, List.map_take, List.map_drop]
      exact del_list _ i.toNat j.toNat _ (by omega) (by rw [hlen]; omega)
    · trivial
open Go.RowKit Go.Extern.Stop Go.Stop Go.Extern
section
open Go.RowKit
set_option maxHeartbeats 4000000 in
set_option maxRecDepth 100000 in
theorem ins_room (b n c i vb vc : Nat) (cur : Array Value) (p : List Value) (w : World) (hi : i < n) (hroom : n + 1 ≤ c) (hc : c ≤ maxLen) (hb : w.heap[b]? = some (.cells cur 90 (0, 0))) (hcs : cur.size = c * 2)
    (vcur : Array Value) (hv : w.heap[vb]? = some (.cells vcur 90 (0, 0))) (hvc : 2 ≤ vcur.size) (hp : vcur.toList.take 2 = p) (hvb : vb ≠ b) (h1 : ∀ u ∈ cur.toList.take (n * 2), u.oneCell' = true) (h1p : ∀ u ∈ p, u.oneCell' = true) :
    Calls Tryz.prog 144 #[.slice (some ⟨b, 0, none⟩) n c, .int .i64 i, .slice (some ⟨vb, 0, none⟩) 1 vc] w fun e w' =>
      e = .returned (.slice (some ⟨b, 0, none⟩) (n + 1) c) ∧ w' = w.drew.setRow b (cur.toList.take (i * 2) ++ p ++ (cur.toList.take (n * 2)).drop (i * 2) ++ cur.toList.drop ((n + 1) * 2)).toArray := by
  have hc63 : c ≤ 9223372036854775807 := by unfold maxLen at hc; omega
  have hpl : p.length = 2 := by rw [← hp, List.length_take]; simp; omega
  have hsz : (Tryz.prog.info? 90).map (·.size) = some 2 := by kernel_rfl
  have hz1 : ¬ ((1 : Int) = 0) := by omega
  have hz2 : ¬ ((i : Int) = (n : Int)) := by omega
  have hov : ∀ lb cb, (callFunc 171 #[.slice (some ⟨vb, 0, none⟩) 1 vc, .slice (some ⟨b, (i + 1) * 2, none⟩) lb cb]).run Tryz.prog w = .ok (.value (.bool false)) w := fun lb cb => by
    rw [run_callFunc_extern Tryz.func171 (by kernel_rfl) (by kernel_rfl) (by kernel_rfl) (e := Extern.SlicesOverlaps.overlaps #[34, 34] #[4]) (by kernel_rfl),
      Lib.run_overlaps_apart w 34 4 90 Tryz.underlying34 2 (fun w => by kernel_rfl) ⟨vb, 0, none⟩ ⟨b, (i + 1) * 2, none⟩ 1 vc lb cb hvb 90 90 vcur.size cur.size (by simp [World.shape?, hv]) (by simp [World.shape?, hb]) (by omega)
        (by simp [World.frozen?, hv]) (by simp [World.frozen?, hv])]
    rfl
  have mixed : Tryz.prog.follows .mixedOrders = true := by kernel_rfl
  have hw1 : IntKind.i64.wrap ((i : Int) + 1) = (i : Int) + 1 := by rw [IntKind.wrap_i64]; omega
  have hw2 : IntKind.i64.wrap ((n : Int) + 1) = (n : Int) + 1 := by rw [IntKind.wrap_i64]; omega
  have hb1 : (0 : Int) ≤ (i : Int) + 1 := by omega
  have hin : i ≤ n := by omega
  have htn : ((i : Int) + 1).toNat = i + 1 := by omega
  have htn2 : ((n : Int) + 1).toNat = n + 1 := by omega
  have hb2 : ¬ (c = i + 1) := by omega
  have hb3 : (i : Int) ≤ (n : Int) + 1 := by omega
  have hb4 : ¬ (c = i) := by omega
  have hb5 : ¬ ((c : Int) < (n : Int) + 1) := by omega
  have hb6 : (n : Int) + 1 ≤ (c : Int) := by omega
  obtain ⟨news, hnews⟩ : ∃ news, news = (cur.toList.drop (i * 2)).take ((n - i) * 2) := ⟨_, rfl⟩
  have hnl : news.length = (n - i) * 2 := by rw [hnews, List.length_take, List.length_drop]; simp; omega
  obtain ⟨cur1, hcur1⟩ : ∃ cur1, cur1 = (cur.toList.take ((i + 1) * 2) ++ news ++ cur.toList.drop ((i + 1) * 2 + (n - i) * 2)).toArray := ⟨_, rfl⟩
  have hc1s : cur1.size = c * 2 := by rw [hcur1]; simp [hnl]; omega
  have hcp1 : ∀ ty dc sc, (Builtin.copy_ #[34, 34] ty #[.slice (some ⟨b, (i + 1) * 2, none⟩) (n - i) dc, .slice (some ⟨b, i * 2, none⟩) (n + 1 - i) sc]).run Tryz.prog w.drew = .ok (goInt ((n - i : Nat) : Int)) (w.drew.setRow b cur1) := fun ty dc sc => by
    rw [hcur1]
    refine run_copy_rows (w := w.drew) 34 34 ty 90 2 b ((i + 1) * 2) (n - i) dc (n - i) ⟨b, i * 2, none⟩ (n + 1 - i) sc news cur 90 Tryz.underlying34 hsz (by simp only [Nat.min_def]; split <;> omega) hnl hb (by omega) (fun j u hj => ?_) (fun u hu => ?_)
    · have hj' := hj
      rw [hnews, List.getElem?_take] at hj'
      split at hj'
      · rw [List.getElem?_drop] at hj'
        rw [Addr.add_lit, Lib.cell_of_heap (show w.drew.heap[b]? = some (.cells cur 90 (0, 0)) from hb)]
        simpa using hj'
      · cases hj'
    · rw [hnews] at hu
      have hu2 := List.mem_of_mem_take hu
      refine h1 u ?_
      have e1 : (cur.toList.drop (i * 2)).take ((n - i) * 2) = (cur.toList.take (n * 2)).drop (i * 2) := by rw [List.drop_take]; congr 1; omega
      rw [e1] at hu
      exact List.mem_of_mem_drop hu
  obtain ⟨W1, hW1⟩ : ∃ W1, W1 = w.drew.setRow b cur1 := ⟨_, rfl⟩
  have hW1b : W1.heap[b]? = some (.cells cur1 90 (0, 0)) := by rw [hW1]; exact setRow_heap w.drew b cur cur1 90 _ hb
  have hW1v : W1.heap[vb]? = some (.cells vcur 90 (0, 0)) := by rw [hW1, setRow_other w.drew b vb cur1 hvb]; exact hv
  have hcp2 : ∀ (W : World), W.heap = W1.heap → ∀ ty dc, (Builtin.copy_ #[34, 34] ty #[.slice (some ⟨b, i * 2, none⟩) (n + 1 - i) dc, .slice (some ⟨vb, 0, none⟩) 1 vc]).run Tryz.prog W = .ok (goInt 1) (W.setRow b (cur1.toList.take (i * 2) ++ p ++ cur1.toList.drop (i * 2 + 1 * 2)).toArray) := fun W hW ty dc =>
    run_copy_rows (w := W) 34 34 ty 90 2 b (i * 2) (n + 1 - i) dc 1 ⟨vb, 0, none⟩ 1 vc p cur1 90 Tryz.underlying34 hsz (by simp only [Nat.min_def]; split <;> omega) (by omega) (by rw [hW]; exact hW1b) (by omega) (fun j u hj => by
      rw [← hp, List.getElem?_take] at hj
      split at hj
      · rw [Addr.add_lit, Lib.cell_of_heap (show W.heap[vb]? = some (.cells vcur 90 (0, 0)) by rw [hW]; exact hW1v)]
        simpa using hj
      · cases hj) h1p
  rw [← hW1] at hcp1
  have fin : W1.setRow b (cur1.toList.take (i * 2) ++ p ++ cur1.toList.drop (i * 2 + 1 * 2)).toArray = w.drew.setRow b (cur.toList.take (i * 2) ++ p ++ (cur.toList.take (n * 2)).drop (i * 2) ++ cur.toList.drop ((n + 1) * 2)).toArray := by
    rw [hW1, setRow_setRow]
    have hn1 : news = (cur.toList.take (n * 2)).drop (i * 2) := by rw [hnews, List.drop_take]; congr 1; omega
    have e1 : cur1.toList = cur.toList.take ((i + 1) * 2) ++ (news ++ cur.toList.drop ((n + 1) * 2)) := by
      rw [hcur1, show (i + 1) * 2 + (n - i) * 2 = (n + 1) * 2 by omega]; simp
    have e2 : cur1.toList.take (i * 2) = cur.toList.take (i * 2) := by
      rw [e1, List.take_append_of_le_length (by rw [List.length_take]; simp; omega), List.take_take]; congr 1; omega
    have e3 : cur1.toList.drop (i * 2 + 1 * 2) = news ++ cur.toList.drop ((n + 1) * 2) := by
      rw [e1, List.drop_append_of_le_length (by rw [List.length_take]; simp; omega), List.drop_eq_nil_of_le (by rw [List.length_take]; omega), List.nil_append]
    rw [e2, e3, ← hn1]
    simp only [List.append_assoc]
  obtain ⟨X, hX⟩ : ∃ X, X = (cur1.toList.take (i * 2) ++ p ++ cur1.toList.drop (i * 2 + 1 * 2)).toArray := ⟨_, rfl⟩
  rw [← hX] at hcp2 fin
  clear hX hW1b hW1v hW1 hc1s hcur1 hnl hnews
  go_enter Tryz.func144, Tryz.ntmps144
  go_wp2_with (simp only [hov])
  go_region_law (refine step_copy_eq rfl _ _ 34 34 rfl _ _ (by simp [Act.eval, Act.put]) (by simp [Act.eval, Act.put]) (hcp1 _ _ _) ?_)
  go_wp2_with (at_builtin; refine wpList_copy_eq rfl _ _ 34 34 rfl _ _ rfl rfl (hcp2 _ rfl _ _) ?_)
  go_ret
  first | exact ⟨rfl, fin⟩ | (refine ⟨rfl, ?_⟩; simp only [List.append_assoc]; done)
set_option maxHeartbeats 4000000 in
set_option maxRecDepth 100000 in
theorem ins_grow (b n c i vb vc : Nat) (cur : Array Value) (p : List Value) (w : World) (hi : i < n) (hnc : n ≤ c) (hroom : c < n + 1) (hbig : (n + 1) * 32 ≤ 140737488355328) (hb : w.heap[b]? = some (.cells cur 90 (0, 0))) (hcs : cur.size = c * 2)
    (vcur : Array Value) (hv : w.heap[vb]? = some (.cells vcur 90 (0, 0))) (hvc : 2 ≤ vcur.size) (hp : vcur.toList.take 2 = p) (h1 : ∀ u ∈ cur.toList.take (n * 2), u.oneCell' = true) (h1p : ∀ u ∈ p, u.oneCell' = true) :
    Calls Tryz.prog 144 #[.slice (some ⟨b, 0, none⟩) n c, .int .i64 i, .slice (some ⟨vb, 0, none⟩) 1 vc] w fun e w' =>
      ∃ G tl, e = .returned (.slice (some ⟨w.heap.size, 0, none⟩) (n + 1) G) ∧ n + 1 ≤ G ∧ G ≤ maxLen ∧ tl.length = (G - (n + 1)) * 2 ∧ w'.heap[w.heap.size]? = some (.cells (cur.toList.take (i * 2) ++ p ++ (cur.toList.take (n * 2)).drop (i * 2) ++ tl).toArray 90 (0, 0)) ∧ Touch w w' (fun _ => False) := by
  have hpl : p.length = 2 := by rw [← hp, List.length_take]; simp; omega
  have hi0 : ∃ j z, Tryz.prog.info? 90 = some j ∧ j.zero = some z ∧ j.size = 2 ∧ j.bytes = 32 ∧ z.cells.size = 2 := ⟨_, _, rfl, rfl, rfl, rfl, rfl⟩
  obtain ⟨i0, z, hi0, hz0, hzs, hzb, hzc⟩ := hi0
  have hsz : (Tryz.prog.info? 90).map (·.size) = some 2 := by rw [hi0]; simp [hzs]
  have hbw : b < w.heap.size := (Array.getElem?_eq_some_iff.1 hb).1
  have hvw : vb < w.heap.size := (Array.getElem?_eq_some_iff.1 hv).1
  have mixed : Tryz.prog.follows .mixedOrders = true := by kernel_rfl
  have hz1 : ¬ ((1 : Int) = 0) := by omega
  have hz2 : ¬ ((i : Int) = (n : Int)) := by omega
  have hz3 : (c : Int) < (n : Int) + 1 := by omega
  have hkk : (n : Int) + 1 - (i : Int) = ((n + 1 - i : Nat) : Int) := by omega
  have hik : i + (n + 1 - i) = n + 1 := by omega
  have hold : (Builtin.firstCells i0.size i (.slice (some ⟨b, 0, none⟩) i c)).run Tryz.prog w.drew = .ok (cur.toList.take (i * 2)).toArray w.drew := by
    rw [hzs]
    exact run_firstCells_some w.drew 2 i ⟨b, 0, none⟩ i c (cur.toList.take (i * 2)) (by rw [List.length_take]; simp; omega) (fun j v hj => by
      rw [Addr.add_lit, Lib.cell_of_heap (show w.drew.heap[b]? = some (.cells cur 90 (0, 0)) from hb)]
      rw [List.getElem?_take] at hj
      split at hj
      · simpa using hj
      · cases hj)
  obtain ⟨G, hG⟩ : ∃ G, G = grownCap w (n + 1) c 90 := ⟨_, rfl⟩
  obtain ⟨ROW, hROW⟩ : ∃ ROW : Array Value, ROW = (cur.toList.take (i * 2)).toArray ++ Builtin.zeroCells z.cells (n + 1 - i) ++ Builtin.zeroCells z.cells (G - (n + 1)) := ⟨_, rfl⟩
  have hrz : ∀ ty, (Builtin.append_ #[34, 3] ty #[.slice (some ⟨b, 0, none⟩) i c, .int .i64 ((n : Int) + 1 - (i : Int))]).run Tryz.prog w =
      .ok (.slice (some ⟨w.heap.size, 0, none⟩) (n + 1) G) (w.drew.alloc (.cells ROW 90)) := fun ty => by
    have h := Lib.run_append_grow_zeros w 34 3 ty 90 i0 _ .i64 .i64 Tryz.underlying34 Tryz.underlying3 hi0 hz0 (some ⟨b, 0, none⟩) i c (cur.toList.take (i * 2)) hold (n + 1 - i) (by omega) (by omega) (by omega) (by omega) (by rw [hzb]; omega) (by rw [hzb, hik]; exact growslice_fits hroom hbig)
    rw [hik, ← hG, ← hROW] at h
    rw [hkk]
    exact h
  have hGn : n + 1 ≤ G := by rw [hG]; exact grownCap_ge w _ _ _
  have hGm : G ≤ maxLen := by
    have := grownCap_le_maxLen w (n + 1) c 90 (by unfold maxLen; omega)
    rwa [← hG] at this
  have hG63 : G ≤ 9223372036854775807 := by unfold maxLen at hGm; omega
  have hRl : ROW.size = G * 2 := by
    rw [hROW]
    simp only [Array.size_append, List.size_toArray, List.length_take, size_zeroCells, hzc]
    simp
    omega
  obtain ⟨N, hN⟩ : ∃ N, N = w.heap.size := ⟨_, rfl⟩
  obtain ⟨W1, hW1⟩ : ∃ W1, W1 = w.drew.alloc (.cells ROW 90) := ⟨_, rfl⟩
  rw [← hW1, ← hN] at hrz
  have hW1N : W1.heap[N]? = some (.cells ROW 90 (0, 0)) := by rw [hW1, hN]; exact heap_alloc_new w.drew _
  have hW1o : ∀ k, k < w.heap.size → W1.heap[k]? = w.heap[k]? := fun k hk => by rw [hW1]; exact Lib.alloc_old w.drew _ k hk
  obtain ⟨row2, hrow2⟩ : ∃ row2, row2 = (ROW.toList.take (i * 2) ++ p ++ ROW.toList.drop (i * 2 + 1 * 2)).toArray := ⟨_, rfl⟩
  have hr2 : row2.size = G * 2 := by rw [hrow2]; simp [hpl]; omega
  have hcpA : ∀ (W : World), W.heap = W1.heap → ∀ ty dc, (Builtin.copy_ #[34, 34] ty #[.slice (some ⟨N, i * 2, none⟩) (n + 1 - i) dc, .slice (some ⟨vb, 0, none⟩) 1 vc]).run Tryz.prog W = .ok (goInt 1) (W.setRow N row2) := fun W hW ty dc => by
    rw [hrow2]
    exact run_copy_rows (w := W) 34 34 ty 90 2 N (i * 2) (n + 1 - i) dc 1 ⟨vb, 0, none⟩ 1 vc p ROW 90 Tryz.underlying34 hsz (by simp only [Nat.min_def]; split <;> omega) (by omega) (by rw [hW]; exact hW1N) (by omega) (fun j u hj => by
      rw [← hp, List.getElem?_take] at hj
      split at hj
      · rw [Addr.add_lit, Lib.cell_of_heap (show W.heap[vb]? = some (.cells vcur 90 (0, 0)) by rw [hW, hW1o vb hvw]; exact hv)]
        simpa using hj
      · cases hj) h1p
  obtain ⟨news, hnews⟩ : ∃ news, news = (cur.toList.take (n * 2)).drop (i * 2) := ⟨_, rfl⟩
  have hnl : news.length = (n - i) * 2 := by rw [hnews, List.length_drop, List.length_take]; simp; omega
  obtain ⟨row3, hrow3⟩ : ∃ row3, row3 = (row2.toList.take ((i + 1) * 2) ++ news ++ row2.toList.drop ((i + 1) * 2 + (n - i) * 2)).toArray := ⟨_, rfl⟩
  have hcpB : ∀ (W : World), W.heap = (W1.setRow N row2).heap → ∀ ty dc sc, (Builtin.copy_ #[34, 34] ty #[.slice (some ⟨N, (i + 1) * 2, none⟩) (n - i) dc, .slice (some ⟨b, i * 2, none⟩) (n - i) sc]).run Tryz.prog W = .ok (goInt ((n - i : Nat) : Int)) (W.setRow N row3) := fun W hW ty dc sc => by
    rw [hrow3]
    refine run_copy_rows (w := W) 34 34 ty 90 2 N ((i + 1) * 2) (n - i) dc (n - i) ⟨b, i * 2, none⟩ (n - i) sc news row2 90 Tryz.underlying34 hsz (by simp only [Nat.min_def]; split <;> omega) hnl (by rw [hW]; exact setRow_heap W1 N ROW row2 90 _ hW1N) (by omega) (fun j u hj => ?_) (fun u hu => ?_)
    · have hbN : b ≠ N := by omega
      rw [Addr.add_lit, Lib.cell_of_heap (show W.heap[b]? = some (.cells cur 90 (0, 0)) by rw [hW, setRow_other W1 N b row2 hbN, hW1o b hbw]; exact hb)]
      rw [hnews, List.getElem?_drop, List.getElem?_take] at hj
      split at hj
      · simpa using hj
      · cases hj
    · rw [hnews] at hu
      exact h1 u (List.mem_of_mem_drop hu)
  have fin : ∀ w' : World, w'.heap = ((W1.setRow N row2).setRow N row3).heap → w'.os = w.os → w'.tape = w.tape → w'.output = w.output → ∃ tl, tl.length = (G - (n + 1)) * 2 ∧ w'.heap[w.heap.size]? = some (.cells (cur.toList.take (i * 2) ++ p ++ (cur.toList.take (n * 2)).drop (i * 2) ++ tl).toArray 90 (0, 0)) ∧ Touch w w' (fun _ => False) := by
    intro w' hw' ho ht hou
    refine ⟨row2.toList.drop ((n + 1) * 2), by rw [List.length_drop]; simp [hr2]; omega, ?_, ⟨ho, ht, hou, ?_, fun k hk _ => ?_⟩⟩
    · rw [hw', ← hN, setRow_heap (W1.setRow N row2) N row2 row3 90 (0, 0) (setRow_heap W1 N ROW row2 90 _ hW1N), hrow3, ← hnews, show (i + 1) * 2 + (n - i) * 2 = (n + 1) * 2 by omega]
      have e1 : ROW.toList.take (i * 2) = cur.toList.take (i * 2) := by
        rw [hROW]
        simp only [Array.toList_append]
        rw [List.append_assoc, List.take_append_of_le_length (by rw [List.length_take]; simp; omega), List.take_take]; congr 1; omega
      have e2 : row2.toList.take ((i + 1) * 2) = cur.toList.take (i * 2) ++ p := by
        rw [hrow2, e1]
        simp only []
        rw [List.take_append_of_le_length (by rw [List.length_append, List.length_take]; simp; omega), List.take_of_length_le (by rw [List.length_append, List.length_take]; omega)]
      rw [e2]
    · rw [hw', hW1]; simp [World.setRow]
    · have hkN : k ≠ N := by omega
      rw [hw', setRow_other (W1.setRow N row2) N k row3 hkN, setRow_other W1 N k row2 hkN, hW1o k hk]
  have hw1 : IntKind.i64.wrap ((i : Int) + 1) = (i : Int) + 1 := by rw [IntKind.wrap_i64]; omega
  have hb1 : (0 : Int) ≤ (i : Int) + 1 := by omega
  have hin : i ≤ n := by omega
  have htn : ((i : Int) + 1).toNat = i + 1 := by omega
  have hb3 : (i : Int) ≤ (n : Int) := by omega
  have hci : ¬ (c = i) := by omega
  have hGi : ¬ (G = i) := by omega
  have hGim : ¬ (G = i + 1) := by omega
  rw [← hN]
  have hcpC := hcpA W1 rfl
  have hcpD := hcpB (W1.setRow N row2).drew rfl
  clear hcpA hcpB
  clear hrow3 hnl hnews hrow2 hr2 hW1o hW1N hRl hROW hG hkk hik hold
  rw [← hN] at fin
  have ho1 : W1.os = w.os := by rw [hW1]; rfl
  have ht1 : W1.tape = w.tape := by rw [hW1]; rfl
  have hu1 : W1.output = w.output := by rw [hW1]; rfl
  clear hW1 hN
  go_enter Tryz.func144, Tryz.ntmps144
  go_wp2_with (first
    | (at_builtin; refine wpList_append_eq rfl _ _ 34 3 rfl _ _ rfl rfl (hrz _) ?_)
    | (at_builtin; refine wpList_copy_eq rfl _ _ 34 34 rfl _ _ rfl rfl (hcpC _ _) ?_))
  go_region_law (refine step_copy_eq rfl _ _ 34 34 rfl _ _ (by simp [Act.eval, Act.put]) (by simp [Act.eval, Act.put]) (hcpD _ _ _) ?_)
  go_wp2
  go_ret
  obtain ⟨tl, q1, q2, q3⟩ := fin ((W1.setRow N row2).drew.setRow N row3) (by rfl) (by exact ho1) (by exact ht1) (by exact hu1)
  exact ⟨G, tl, rfl, hGn, hGm, q1, q2, q3⟩
theorem ins_calls (v pv : Value) (n i : Nat) (xs p : List Value) (w : World) (hv : w.ownsRow 0 90 2 v n xs) (hp : w.ownsRow 0 90 2 pv 1 p) (hne : ∀ b, v.ownBlock = some b → pv.ownBlock ≠ some b) (hi : i < n)
    (hbig : (n + 1) * 32 ≤ 140737488355328) (h1 : ∀ u ∈ xs, u.oneCell' = true) (h1p : ∀ u ∈ p, u.oneCell' = true) :
    Calls Tryz.prog 144 #[v, .int .i64 i, pv] w fun e w' => ∃ v', e = .returned v' ∧ w'.ownsRow 0 90 2 v' (n + 1) (xs.take (i * 2) ++ p ++ xs.drop (i * 2)) ∧ (v'.ownBlock = v.ownBlock ∨ v'.ownBlock = some w.heap.size) ∧ Touch w w' (fun k => v.ownBlock = some k) := by
  rcases hp.2 with ⟨_, h0⟩ | ⟨vb, vc, vcur, rfl, _, hvb, hvc, _, hvs, hvt⟩
  · exact absurd h0 (by decide)
  rcases hv.2 with ⟨_, h0⟩ | ⟨b, c, cur, rfl, _, hb, hnc, hc, hcs, ht⟩
  · omega
  have hvbb : vb ≠ b := fun h => hne b rfl (by simp [Value.ownBlock, h])
  have hxl : xs.length = n * 2 := hv.1
  have hpl : p.length = 2 := hp.1
  have hyl : (xs.take (i * 2) ++ p ++ xs.drop (i * 2)).length = (n + 1) * 2 := by
    simp only [List.length_append, List.length_take, List.length_drop]; omega
  by_cases hroom : n + 1 ≤ c
  · refine (ins_room b n c i vb vc cur p w hi hroom hc hb hcs vcur hvb (by omega) hvt hvbb (by rw [ht]; exact h1) h1p).mono ?_
    rintro e w' ⟨rfl, rfl⟩
    rw [ht]
    have e0 : cur.toList.take (i * 2) = xs.take (i * 2) := by rw [← ht, List.take_take]; congr 1; omega
    rw [e0]
    refine ⟨_, rfl, ⟨hyl, .inr ⟨b, c, _, rfl, Nat.zero_le _, setRow_heap w.drew b cur _ 90 _ hb, hroom, hc, ?_, ?_⟩⟩, .inl rfl, ⟨rfl, rfl, rfl, by simp [World.setRow], fun k _ hk => setRow_other w.drew b k _ (fun e => hk (by simp [Value.ownBlock, e]))⟩⟩
    · simp only [List.size_toArray, List.length_append, List.length_drop, Array.length_toList] at hyl ⊢; omega
    · rw [← hyl]; exact List.take_left
  · refine (ins_grow b n c i vb vc cur p w hi hnc (by omega) hbig hb hcs vcur hvb (by omega) hvt (by rw [ht]; exact h1) h1p).mono ?_
    rintro e w' ⟨G, tl, rfl, hG, hGm, htl, hh, T⟩
    rw [ht] at hh
    have e0 : cur.toList.take (i * 2) = xs.take (i * 2) := by rw [← ht, List.take_take]; congr 1; omega
    rw [e0] at hh
    refine ⟨_, rfl, ⟨hyl, .inr ⟨w.heap.size, G, _, rfl, Nat.zero_le _, hh, hG, hGm, ?_, ?_⟩⟩, .inr rfl, ⟨T.os, T.tape, T.output, T.size, fun k hk _ => T.block k hk (fun h => h)⟩⟩
    · simp only [List.size_toArray, List.length_append] at hyl ⊢; omega
    · rw [← hyl]; exact List.take_left
theorem insert_144 {α : Type} (enc : α → List AV) (l : List α) (x : α) (i : Int) (hi : 0 ≤ i ∧ i < (l.length : Int) ∧ (l.length + 1) * 32 ≤ 140737488355328) :
    CallP Tryz.prog 144 [.row 90 2 (l.map enc), .row 90 2 [enc x]] [.row 0 (l.map enc).length, .v (.int .i64 i), .row 1 1] (fun r H' => r = .row 0 ((l.take i.toNat ++ [x] ++ l.drop i.toNat).map enc).length ∧
      H'.take ([.row 90 2 ((l.take i.toNat ++ [x] ++ l.drop i.toNat).map enc), .row 90 2 [enc x]] : List Ob).length = [.row 90 2 ((l.take i.toNat ++ [x] ++ l.drop i.toNat).map enc), .row 90 2 [enc x]]) := by
  have h := callP_insert (callable_of Tryz.func144 rfl (by kernel_rfl)) ins_calls (l.map enc) (enc x) i (by simpa using hi)
  simpa only [List.map_append, List.map_take, List.map_drop, List.map_cons, List.map_nil] using h
end
section
open Go.RowKit
set_option maxHeartbeats 1000000 in
set_option maxRecDepth 100000 in
theorem cc_used (b : Nat) (w : World) (h0 : w.cell? ⟨b, 0, none⟩ = some (.pointer (some ⟨b, 0, none⟩))) :
    Calls Tryz.prog 145 #[.pointer (some ⟨b, 0, none⟩)] w fun e w' => e = .returned (.tuple #[]) ∧ w' = w := by
  have hj0 : ∃ j, Tryz.prog.info? 171 = some j ∧ j.size = 2 := ⟨_, rfl, rfl⟩
  obtain ⟨j, hj, hjs⟩ := hj0
  have u168 := run_underlying Tryz.underlying168
  go_enter Tryz.func145, Tryz.ntmps145
  go_wp2
  rw [Lib.run_neq_ptr_same w _ Tryz.underlying168 hj]
  go_wp2
  go_end0
  exact ⟨rfl, rfl⟩
set_option maxHeartbeats 1000000 in
set_option maxRecDepth 100000 in
theorem cc_fresh (b : Nat) (w : World) (h0 : w.cell? ⟨b, 0, none⟩ = some (.pointer none)) (hsh : w.shape? b = some (171, 2)) (hfz : w.frozen? ⟨b, 0, none⟩ = false) :
    Calls Tryz.prog 145 #[.pointer (some ⟨b, 0, none⟩)] w fun e w' => e = .returned (.tuple #[]) ∧ w' = w.setCell ⟨b, 0, none⟩ (.pointer (some ⟨b, 0, none⟩)) := by
  have hj0 : ∃ j, Tryz.prog.info? 171 = some j ∧ j.size = 2 := ⟨_, rfl, rfl⟩
  obtain ⟨j, hj, hjs⟩ := hj0
  have u168 := run_underlying Tryz.underlying168
  have lies : liesAt Tryz.prog Tryz.prog.depth 171 (2 / Tryz.prog.cellsOf 171) 0 171 1 = true := by kernel_rfl
  go_enter Tryz.func145, Tryz.ntmps145
  go_wp2
  rw [Lib.run_to_unsafe w ⟨b, 0, none⟩ Tryz.underlying168 Tryz.underlying217 hj (by rw [hjs]; decide) hsh (Nat.zero_lt_succ 1)]
  simp only [Result.andThen]
  rw [Oper.upon_value]
  go_wp2
  rw [run_callFunc_extern Tryz.func173 (by kernel_rfl) (by kernel_rfl) (by kernel_rfl) (e := Extern.AbiNoEscape.same) (by kernel_rfl)]
  rw [Lib.run_noEscape]
  simp only [Result.andThen]
  rw [Oper.upon_value]
  go_wp2
  rw [Lib.run_from_unsafe w ⟨b, 0, none⟩ Tryz.underlying217 Tryz.underlying168 hj hsh lies]
  simp only [Result.andThen]
  rw [Oper.upon_value]
  go_wp2
  go_end0
  exact ⟨rfl, rfl⟩
/-- What the check leaves: its own address in the first cell. -/
theorem cc_any (b : Nat) (p v : Value) (w : World) (hp : p = .pointer none ∨ p = .pointer (some ⟨b, 0, none⟩)) (hbk : w.heap[b]? = some (.cells #[p, v] 171 (0, 0))) :
    Calls Tryz.prog 145 #[.pointer (some ⟨b, 0, none⟩)] w fun e w' => e = .returned (.tuple #[]) ∧ (w'.heap[b]? = some (.cells #[.pointer (some ⟨b, 0, none⟩), v] 171 (0, 0)) ∧ w'.heap.size = w.heap.size ∧ Touch w w' (fun k => k = b)) := by
  have hlt : b < w.heap.size := by
    rcases Nat.lt_or_ge b w.heap.size with h' | h'
    · exact h'
    · simp [Array.getElem?_eq_none h'] at hbk
  rcases hp with rfl | rfl
  · refine (cc_fresh b w (by rw [Lib.cell_of_heap hbk]; rfl) (by simp [World.shape?, hbk]) (Lib.frozen_of_heap hbk 0)).mono ?_
    rintro e w' ⟨rfl, rfl⟩
    refine ⟨rfl, ?_, by simp [World.setCell], ⟨rfl, rfl, rfl, by simp [World.setCell], fun k _ hk => Below.heap_setCell _ _ _ _ (fun e => hk e)⟩⟩
    simp [World.setCell, Array.getElem?_modify, hbk]
  · refine (cc_used b w (by rw [Lib.cell_of_heap hbk]; rfl)).mono ?_
    rintro e w' ⟨rfl, rfl⟩
    exact ⟨rfl, hbk, rfl, Touch.refl _ _⟩
set_option maxHeartbeats 2000000 in
set_option maxRecDepth 100000 in
theorem ws_calls (b : Nat) (p v : Value) (n : Nat) (xs : List Value) (s : ByteArray) (w : World) (hp : p = .pointer none ∨ p = .pointer (some ⟨b, 0, none⟩)) (hbk : w.heap[b]? = some (.cells #[p, v] 171 (0, 0)))
    (hown : w.ownsRow 0 5 1 v n xs) (hne : v.ownBlock ≠ some b) (hlen : n + s.size ≤ 140737488355328) :
    Calls Tryz.prog 98 #[.pointer (some ⟨b, 0, none⟩), .string s] w fun e w' => e = .returned (.tuple #[.int .i64 s.size, .nilIface]) ∧ ∃ v', w'.heap[b]? = some (.cells #[.pointer (some ⟨b, 0, none⟩), v'] 171 (0, 0)) ∧
      w'.ownsRow 0 5 1 v' (n + s.size) (xs ++ Lib.strCells s) ∧ (v'.ownBlock = v.ownBlock ∨ v'.ownBlock = some w.heap.size) ∧ Touch w w' (fun k => k = b ∨ v.ownBlock = some k) := by
  have hi0 : ∃ i, Tryz.prog.info? 5 = some i ∧ i.zero = some (.int .u8 0) ∧ i.size = 1 ∧ i.bytes = 1 := ⟨_, rfl, rfl, rfl, rfl⟩
  obtain ⟨i0, hi, hz0, hz1, hz2⟩ := hi0
  have hlt : b < w.heap.size := by
    rcases Nat.lt_or_ge b w.heap.size with h' | h'
    · exact h'
    · simp [Array.getElem?_eq_none h'] at hbk
  go_enter Tryz.func98, Tryz.ntmps98
  go_wp2_with (go_at_call 145; refine (cc_any b p v _ hp hbk).mono ?_)
  rintro e w1 ⟨rfl, hbk1, hsz1, T1⟩
  have hown1 : w1.ownsRow 0 5 1 v n xs := hown.kept (row := some b) ⟨T1.os, T1.tape, T1.output, T1.size, fun k hk hk2 => T1.block k hk (fun e => hk2 (by simp [e]))⟩ (.inr hne)
  have c0 : w1.cell? ⟨b, 0, none⟩ = some (.pointer (some ⟨b, 0, none⟩)) := by rw [Lib.cell_of_heap hbk1]; rfl
  have c1 : w1.cell? ⟨b, 1, none⟩ = some v := by rw [Lib.cell_of_heap hbk1]; rfl
  go_wp2_with (at_builtin; refine wpList_append_str rfl _ _ 169 9 rfl 5 i0 Tryz.underlying169 Tryz.underlying9 hi hz0 hz1 hz2 _ _ _ rfl hown1 s rfl hlen ?_)
  intro v' w2 hown' hgrow hblk
  have hb2 : w2.heap[b]? = some (.cells #[.pointer (some ⟨b, 0, none⟩), v] 171 (0, 0)) := by
    rw [hgrow.block b (by omega) (fun e => hne e.symm)]
    exact hbk1
  have d0 : w2.cell? ⟨b, 0, none⟩ = some (.pointer (some ⟨b, 0, none⟩)) := by rw [Lib.cell_of_heap hb2]; rfl
  have d1 : w2.cell? ⟨b, 1, none⟩ = some v := by rw [Lib.cell_of_heap hb2]; rfl
  have f1 : w2.frozen? ⟨b, 1, none⟩ = false := Lib.frozen_of_heap hb2 1
  have hne' : v'.ownBlock ≠ some b := by
    rcases hblk with h | h
    · rw [h]; exact hne
    · rw [h]; intro e; injection e; omega
  obtain ⟨ao, n', cap, rfl⟩ : ∃ ao n' cap, v' = .slice ao n' cap := by
    rcases hown'.2 with ⟨hv, _⟩ | ⟨g, cap, cur, hv, _⟩
    · exact ⟨_, _, _, hv⟩
    · exact ⟨_, _, _, hv⟩
  go_wp2
  go_ret2
  refine ⟨rfl, _, ?_, hown'.kept (row := some b) ⟨rfl, rfl, rfl, by simp [World.setCell], fun k _ hk => Below.heap_setCell _ _ _ _ (fun e => hk (by simp [e]))⟩ (.inr hne'), hblk, ?_⟩
  · simp [World.setCell, Array.getElem?_modify, hb2]
  · refine ⟨hgrow.os.trans T1.os, hgrow.tape.trans T1.tape, hgrow.output.trans T1.output, Nat.le_trans T1.size (Nat.le_trans hgrow.size (by simp [World.setCell])), fun k hk hno => ?_⟩
    rw [Below.heap_setCell _ _ _ _ (fun e => hno (.inl e)), hgrow.block k (Nat.lt_of_lt_of_le hk T1.size) (fun e => hno (.inr e.symm)), T1.block k hk (fun e => hno (.inl e))]
set_option maxHeartbeats 2000000 in
set_option maxRecDepth 100000 in
theorem st_calls (b : Nat) (p v : Value) (l : List UInt8) (w : World) (hbk : w.heap[b]? = some (.cells #[p, v] 171 (0, 0))) (hown : w.ownsRow 0 5 1 v l.length (Lib.byteCells l)) (h0 : l ≠ []) :
    Calls Tryz.prog 100 #[.pointer (some ⟨b, 0, none⟩)] w fun e w' => e = .returned (.string ⟨l.toArray⟩) ∧ w'.heap[b]? = some (.cells #[p, v] 171 (0, 0)) ∧ Touch w w' (fun k => v.ownBlock = some k) := by
  have hl0 : l.length ≠ 0 := by simpa using h0
  obtain ⟨g, cap, cur, rfl, hbg, hg, hnc, hcm, hcs, htake⟩ : ∃ g cap cur, v = .slice (some ⟨g, 0, none⟩) l.length cap ∧ 0 ≤ g ∧ w.heap[g]? = some (.cells cur 5 (0, 0)) ∧ l.length ≤ cap ∧ cap ≤ maxLen ∧ cur.size = cap * 1 ∧ cur.toList.take (l.length * 1) = Lib.byteCells l := by
    rcases hown.2 with ⟨_, hz⟩ | ⟨g, cap, cur, hv, r⟩
    · exact absurd hz hl0
    · exact ⟨g, cap, cur, hv, r⟩
  have hgb : g ≠ b := by
    intro e
    rw [e, hbk] at hg
    injection hg with hg
    injection hg with _ hg
    exact absurd hg (by decide)
  have c1 : w.drew.cell? ⟨b, 1, none⟩ = some (.slice (some ⟨g, 0, none⟩) l.length cap) := by
    have : w.drew.heap[b]? = some (.cells #[p, .slice (some ⟨g, 0, none⟩) l.length cap] 171 (0, 0)) := hbk
    rw [Lib.cell_of_heap this]; rfl
  have hSD : (Builtin.unsafeSliceData_ #[169] 213 #[.slice (some ⟨g, 0, none⟩) l.length cap]).run Tryz.prog w.drew = .ok (.pointer (some ⟨g, 0, none⟩)) w.drew :=
    Lib.run_unsafeSliceData_row _ _ _ _ _ _ (by omega)
  have hUS : (Builtin.unsafeString_ #[213, 3] 9 #[.pointer (some ⟨g, 0, none⟩), .int .i64 l.length]).run Tryz.prog w.drew = .ok (.string ⟨l.toArray⟩) (w.drew.freeze ⟨g, 0, none⟩ l.length) := by
    refine Lib.run_unsafeString_row w.drew 213 3 9 5 Tryz.underlying213 (by kernel_rfl) g cur.size (by have hg' : w.drew.heap[g]? = some (.cells cur 5 (0, 0)) := hg; simp [World.shape?, hg']) l h0 (by omega) (by unfold maxLen at hcm; omega) ?_
    intro j x hx
    exact hown.cells (g := g) rfl j (.int .u8 x.toNat) (by simp [Lib.byteCells, hx])
  go_enter Tryz.func100, Tryz.ntmps100
  go_wp2
  go_region
  all_goals (go_wp2; go_ret; refine ⟨rfl, ?_, ?_⟩)
  all_goals first
    | (show (w.drew.freeze ⟨g, 0, none⟩ l.length).heap[b]? = _
       unfold World.freeze
       rw [if_neg hl0]
       simp only [Array.getElem?_modify]
       rw [if_neg hgb]
       exact hbk)
    | (refine ⟨?_, ?_, ?_, ?_, fun k hk hno => ?_⟩
       · unfold World.freeze; rw [if_neg hl0]; rfl
       · unfold World.freeze; rw [if_neg hl0]; rfl
       · unfold World.freeze; rw [if_neg hl0]; rfl
       · unfold World.freeze; rw [if_neg hl0]; simp
       · unfold World.freeze
         rw [if_neg hl0]
         simp only [Array.getElem?_modify]
         rw [if_neg (fun e => hno (by simp [Value.ownBlock, e]))]
         rfl)
theorem bwrite_98 {a0 : AV} (h0 : BdAt a0) (t s : Str) (hs : 0 < s.length ∧ t.length + s.length ≤ 140737488355328) :
    CallP Tryz.prog 98 [.var 171 [a0, .row 1 (t.map byteU).length], .row 5 1 (t.map byteU)] [.ptr 0 0, .v (.string (bs s))] (fun r H' => r = .tup [.v (.int .i64 (s.length : Int)), .v .nilIface] ∧
      H'.take ([.var 171 [.ptr 0 0, .row 1 ((t ++ s).map byteU).length], .row 5 1 ((t ++ s).map byteU)] : List Ob).length = [.var 171 [.ptr 0 0, .row 1 ((t ++ s).map byteU).length], .row 5 1 ((t ++ s).map byteU)]) :=
  callP_bwrite' (callable_of Tryz.func98 rfl (by kernel_rfl)) ws_calls h0 t s hs
theorem bstr_100 (a0 : AV) (t : Str) (ht : 0 < t.length) :
    CallP Tryz.prog 100 [.var 171 [a0, .row 1 (t.map byteU).length], .row 5 1 (t.map byteU)] [.ptr 0 0] (fun r H' => r = .v (.string (bs t)) ∧ H'.take ([.gone, .gone] : List Ob).length = [.gone, .gone]) :=
  callP_bstring (callable_of Tryz.func100 rfl (by kernel_rfl)) st_calls a0 t ht
end
section
open Go.RowKit Go.Extern.Stop Go.Stop Go.Extern
theorem as_nil (t : Value) (w : World) : Calls Tryz.prog 104 #[.nilIface, t] w fun e w' => e = .returned (.bool false) ∧ w' = w := by
  go_enter Tryz.func104, Tryz.ntmps104
  go_wp2
  go_ret
  exact ⟨rfl, rfl⟩
theorem as_valueOfP (t : Addr) (w : World) : (Extern.ReflectliteValue.unpack (.iface 182 (.pointer (some t)))).run Tryz.prog w
    = .ok (.agg #[.pointer (some ⟨1, 182, none⟩), .pointer (some ⟨w.heap.size, 0, none⟩), .int .u64 150]) (w.alloc (.cells #[.pointer (some t)] 182)) := by kernel_rfl
theorem as_typeP (a : Addr) (w : World) : (Extern.ReflectliteValue.methodAny (Extern.ReflectliteValue.valueError "reflectlite.Value.Type" 0) (fun t _ _ _ => Extern.ReflectliteType.toType t) #[.agg #[.pointer (some ⟨1, 182, none⟩), .pointer (some a), .int .u64 150]]).run Tryz.prog w
    = .ok (.iface 243 (.agg #[.pointer (some ⟨1, 182, none⟩)])) w := by kernel_rfl
theorem as_mK (h : Value) (w : World) : (Go.method 388 243 (.agg #[h]) "Kind").run Tryz.prog w = .ok (197, h) w := by kernel_rfl
theorem as_kindP (w : World) : ((Extern.ReflectliteType.abiMethod fun t => (fun a : Nat => Value.int IntKind.u8 (a : Int)) <$> Extern.Rtype.kind t) #[.pointer (some ⟨1, 182, none⟩)]).run Tryz.prog w = .ok (.int .u8 22) w := by kernel_rfl
theorem as_kindT (w : World) : ((Extern.ReflectliteType.abiMethod fun t => (fun a : Nat => Value.int IntKind.u8 (a : Int)) <$> Extern.Rtype.kind t) #[.pointer (some ⟨1, 180, none⟩)]).run Tryz.prog w = .ok (.int .u8 25) w := by kernel_rfl
theorem as_rlm (z : Sem Value) (f : TypeId → Addr → Nat → Nat → Sem Value) (v : Value) :
    Extern.ReflectliteValue.method z f #[v] = (do match ← Extern.ReflectliteValue.parts v with | none => z | some (t, a, fl) => f t a fl (fl % 32)) := rfl
theorem as_partsP (a : Addr) (w : World) : (Extern.ReflectliteValue.parts (.agg #[.pointer (some ⟨1, 182, none⟩), .pointer (some a), .int .u64 150])).run Tryz.prog w = .ok (some (182, a, 150)) w := by kernel_rfl
theorem as_isNil (a p : Addr) (W : World) (ha : W.cell? a = some (.pointer (some p))) :
    (Extern.ReflectliteValue.method (Extern.ReflectliteValue.valueError "reflectlite.Value.IsNil" 0) Extern.ReflectliteValue.isNil #[.agg #[.pointer (some ⟨1, 182, none⟩), .pointer (some a), .int .u64 150]]).run Tryz.prog W = .ok (.bool false) W := by
  rw [as_rlm]
  simp only [Sem.run_bind, as_partsP, Result.andThen]
  simp [Extern.ReflectliteValue.isNil, loadVar, isAgg, underlying, Tryz.underlying182, ha, Result.andThen]
theorem as_mE (h : Value) (w : World) : (Go.method 388 243 (.agg #[h]) "Elem").run Tryz.prog w = .ok (210, .agg #[h]) w := by kernel_rfl
theorem as_mI (h : Value) (w : World) : (Go.method 388 243 (.agg #[h]) "Implements").run Tryz.prog w = .ok (211, .agg #[h]) w := by kernel_rfl
theorem as_mA (h : Value) (w : World) : (Go.method 388 243 (.agg #[h]) "AssignableTo").run Tryz.prog w = .ok (208, .agg #[h]) w := by kernel_rfl
theorem as_elemP (w : World) : (Extern.ReflectliteType.method Extern.ReflectliteType.elem #[.agg #[.pointer (some ⟨1, 182, none⟩)]]).run Tryz.prog w = .ok (.iface 243 (.agg #[.pointer (some ⟨1, 180, none⟩)])) w := by kernel_rfl
theorem as_implT (w : World) : (Extern.ReflectliteType.relation "Implements" Extern.ReflectliteType.implements_ #[.agg #[.pointer (some ⟨1, 180, none⟩)], .iface 243 (.agg #[.pointer (some ⟨1, 107, none⟩)])]).run Tryz.prog w = .ok (.bool true) w := by kernel_rfl
theorem as_typeOfT (v : Value) (w : World) : (Extern.ReflectliteType.typeOf #[.iface 180 v]).run Tryz.prog w = .ok (.iface 243 (.agg #[.pointer (some ⟨1, 180, none⟩)])) w := by kernel_rfl
theorem as_assT (w : World) : (Extern.ReflectliteType.relation "AssignableTo" Extern.ReflectliteType.assignableTo #[.agg #[.pointer (some ⟨1, 180, none⟩)], .iface 243 (.agg #[.pointer (some ⟨1, 180, none⟩)])]).run Tryz.prog w = .ok (.bool true) w := by kernel_rfl
theorem as_valueOfT (x y : Value) (hx : x.oneCell' = true) (hy : y.oneCell' = true) (w : World) : (Extern.ReflectliteValue.unpack (.iface 180 (.agg #[x, y]))).run Tryz.prog w
    = .ok (.agg #[.pointer (some ⟨1, 180, none⟩), .pointer (some ⟨w.heap.size, 0, none⟩), .int .u64 153]) (w.alloc (.cells #[x, y] 180)) := by kernel_rfl
theorem as_elemOfP (w : World) : (Extern.Rtype.elem? 182).run Tryz.prog w = .ok (some 180) w := by kernel_rfl
theorem as_mkT (p : Addr) (w : World) : (Extern.ReflectliteValue.mk 180 p Extern.ReflectliteValue.flagAddr).run Tryz.prog w = .ok (.agg #[.pointer (some ⟨1, 180, none⟩), .pointer (some p), .int .u64 409]) w := by kernel_rfl
theorem as_elemV (a p : Addr) (W : World) (ha : W.cell? a = some (.pointer (some p))) :
    (Extern.ReflectliteValue.method (Extern.ReflectliteValue.valueError "reflectlite.Value.Elem" 0) Extern.ReflectliteValue.elem #[.agg #[.pointer (some ⟨1, 182, none⟩), .pointer (some a), .int .u64 150]]).run Tryz.prog W
      = .ok (.agg #[.pointer (some ⟨1, 180, none⟩), .pointer (some p), .int .u64 409]) W := by
  rw [as_rlm]
  simp only [Sem.run_bind, as_partsP, Result.andThen]
  simp [Extern.ReflectliteValue.elem, loadVar, isAgg, underlying, Tryz.underlying182, ha, Result.andThen, as_elemOfP, as_mkT]
theorem as_rls (v x : Value) : Extern.ReflectliteValue.set #[v, x] = (do
    let (some (dst, a, fl), some (src, b, _)) := (← Extern.ReflectliteValue.parts v, ← Extern.ReflectliteValue.parts x)
      | unsupported (.noEntry "extern/(internal/reflectlite.Value).Set.zeroValue")
    if fl / Extern.ReflectliteValue.flagAddr % 2 == 0 then unsupported (.noEntry "extern/(internal/reflectlite.Value).Set.unaddressable")
    let val ← loadVar src b
    if ← Extern.Rtype.directlyAssignable dst src then storeVar dst a val
    else if ← Extern.Rtype.implements dst src then
      if (← Extern.Rtype.kind src) == 20 then
        match val with
        | .nilIface => unsupported (.noEntry "extern/reflectlite: a nil value of one interface type handed on as a value of another")
        | _ => storeVar dst a val
      else storeVar dst a (.iface src val)
    else panicString ("reflectlite.Set: value of type " ++ (← Extern.Rtype.spelt src) ++ " is not assignable to type " ++ (← Extern.Rtype.spelt dst))
    pure (.tuple #[])) := rfl
theorem as_partsTa (a : Addr) (w : World) : (Extern.ReflectliteValue.parts (.agg #[.pointer (some ⟨1, 180, none⟩), .pointer (some a), .int .u64 409])).run Tryz.prog w = .ok (some (180, a, 409)) w := by kernel_rfl
theorem as_partsT (a : Addr) (w : World) : (Extern.ReflectliteValue.parts (.agg #[.pointer (some ⟨1, 180, none⟩), .pointer (some a), .int .u64 153])).run Tryz.prog w = .ok (some (180, a, 153)) w := by kernel_rfl
theorem as_direct (w : World) : (Extern.Rtype.directlyAssignable 180 180).run Tryz.prog w = .ok true w := by kernel_rfl
theorem as_size (w : World) : (sizeOf 180).run Tryz.prog w = .ok 2 w := by kernel_rfl
theorem as_isAgg (w : World) : (isAgg 180).run Tryz.prog w = .ok true w := by kernel_rfl
theorem as_set (g b : Nat) (x y : Value) (cur : Array Value) (W : World) (hx : x.oneCell' = true) (hy : y.oneCell' = true) (hb : W.heap[b]? = some (.cells #[x, y] 180 (0, 0))) (hg : W.heap[g]? = some (.cells cur 180 (0, 0))) (hc : cur.size = 2) :
    (Extern.ReflectliteValue.set #[.agg #[.pointer (some ⟨1, 180, none⟩), .pointer (some ⟨g, 0, none⟩), .int .u64 409], .agg #[.pointer (some ⟨1, 180, none⟩), .pointer (some ⟨b, 0, none⟩), .int .u64 153]]).run Tryz.prog W
      = .ok (.tuple #[]) (W.setRow g #[x, y]) := by
  have hld := run_loadCells_list (P := Tryz.prog) (w := W) ⟨b, 0, none⟩ [x, y] (fun j u hj => by
    rw [Addr.add_lit, Lib.cell_of_heap hb]
    simpa using hj)
  have hst := run_storeCells_at Tryz.prog g 0 180 [x, y] 0 cur W hg (by simp [hc]) (by simp [hx, hy])
  have hcv : (Value.agg #[x, y]).cells = #[x, y] := by kernel_rfl
  have hdrop : cur.toList.drop 2 = [] := List.drop_eq_nil_of_le (by simp [hc])
  rw [as_rls]
  simp only [Sem.run_bind, as_partsTa, as_partsT, Result.andThen]
  simp at hld hst
  simp [Extern.ReflectliteValue.flagAddr, loadVar, as_isAgg, as_size, hld, Result.andThen, as_direct, storeVar, hcv, hst, hdrop]
set_option maxHeartbeats 8000000 in
set_option maxRecDepth 100000 in
theorem as_hit (g : Nat) (x y : Value) (cur : Array Value) (w : World) (hx : x.oneCell' = true) (hy : y.oneCell' = true) (hG : w.cell? ⟨0, 0, none⟩ = some (.iface 243 (.agg #[.pointer (some ⟨1, 107, none⟩)]))) (hg : w.heap[g]? = some (.cells cur 180 (0, 0))) (hc : cur.size = 2) :
    Calls Tryz.prog 104 #[.iface 180 (.agg #[x, y]), .iface 182 (.pointer (some ⟨g, 0, none⟩))] w fun ev w' => ev = .returned (.bool true) ∧ w'.heap[g]? = some (.cells #[x, y] 180 (0, 0)) ∧ Touch w w' (fun k => k = g) := by
  have h6 := @run_callFunc_extern Tryz.prog 149 _ (fun args => Extern.ReflectliteValue.unpack (args.getD 0 (.tuple #[]))) Tryz.func149 (by kernel_rfl) (by kernel_rfl) (by kernel_rfl) (by kernel_rfl)
  have h7 := @run_callFunc_extern Tryz.prog 150 _ (Extern.ReflectliteValue.methodAny (Extern.ReflectliteValue.valueError "reflectlite.Value.Type" 0) (fun t _ _ _ => Extern.ReflectliteType.toType t)) Tryz.func150 (by kernel_rfl) (by kernel_rfl) (by kernel_rfl) (by kernel_rfl)
  have h8 := @run_callFunc_extern Tryz.prog 151 _ (Extern.ReflectliteValue.method (Extern.ReflectliteValue.valueError "reflectlite.Value.IsNil" 0) Extern.ReflectliteValue.isNil) Tryz.func151 (by kernel_rfl) (by kernel_rfl) (by kernel_rfl) (by kernel_rfl)
  have h27 := @run_callFunc_extern Tryz.prog 197 _ (Extern.ReflectliteType.abiMethod fun t => do pure (.int .u8 (← Extern.Rtype.kind t))) Tryz.func197 (by kernel_rfl) (by kernel_rfl) (by kernel_rfl) (by kernel_rfl)
  have h37 := @run_callFunc_extern Tryz.prog 210 _ (Extern.ReflectliteType.method Extern.ReflectliteType.elem) Tryz.func210 (by kernel_rfl) (by kernel_rfl) (by kernel_rfl) (by kernel_rfl)
  have h38 := @run_callFunc_extern Tryz.prog 211 _ (Extern.ReflectliteType.relation "Implements" Extern.ReflectliteType.implements_) Tryz.func211 (by kernel_rfl) (by kernel_rfl) (by kernel_rfl) (by kernel_rfl)
  have h10 := @run_callFunc_extern Tryz.prog 153 _ Extern.ReflectliteType.typeOf Tryz.func153 (by kernel_rfl) (by kernel_rfl) (by kernel_rfl) (by kernel_rfl)
  have h35 := @run_callFunc_extern Tryz.prog 208 _ (Extern.ReflectliteType.relation "AssignableTo" Extern.ReflectliteType.assignableTo) Tryz.func208 (by kernel_rfl) (by kernel_rfl) (by kernel_rfl) (by kernel_rfl)
  have h11 := @run_callFunc_extern Tryz.prog 174 _ (Extern.ReflectliteValue.method (Extern.ReflectliteValue.valueError "reflectlite.Value.Elem" 0) Extern.ReflectliteValue.elem) Tryz.func174 (by kernel_rfl) (by kernel_rfl) (by kernel_rfl) (by kernel_rfl)
  have h12 := @run_callFunc_extern Tryz.prog 175 _ Extern.ReflectliteValue.set Tryz.func175 (by kernel_rfl) (by kernel_rfl) (by kernel_rfl) (by kernel_rfl)
  have tO := as_typeOfT
  have mA := as_mA
  have a25 := as_assT
  have v25 := as_valueOfT x y hx hy
  have f6 := as_valueOfP
  have f7 := as_typeP
  have mK := as_mK
  have mE := as_mE
  have mI := as_mI
  have k27 := as_kindP
  have k25 := as_kindT
  have e27 := as_elemP
  have i25 := as_implT
  have hlt : 0 < w.heap.size := by
    rcases Nat.eq_zero_or_pos w.heap.size with h0 | h
    · simp [World.cell?, h0] at hG
    · exact h
  have hgl : g < w.heap.size := (Array.getElem?_eq_some_iff.1 hg).1
  have n8 := as_isNil ⟨w.heap.size, 0, none⟩ ⟨g, 0, none⟩ ((w.alloc (.cells #[.pointer (some ⟨g, 0, none⟩)] 182)).alloc (.cells #[.pointer (some ⟨1, 182, none⟩), .pointer (some ⟨w.heap.size, 0, none⟩), .int .u64 150] 220)) (by simp)
  have hg2 : ((w.alloc (.cells #[.pointer (some ⟨g, 0, none⟩)] 182)).alloc (.cells #[.pointer (some ⟨1, 182, none⟩), .pointer (some ⟨w.heap.size, 0, none⟩), .int .u64 150] 220)).cell? ⟨0, 0, none⟩ = some (.iface 243 (.agg #[.pointer (some ⟨1, 107, none⟩)])) := by
    rw [World.cell?_alloc_lt _ _ ⟨0, 0, none⟩ (by simp), World.cell?_alloc_lt _ _ ⟨0, 0, none⟩ hlt]; exact hG
  have el := as_elemV ⟨w.heap.size, 0, none⟩ ⟨g, 0, none⟩ (((w.alloc (.cells #[.pointer (some ⟨g, 0, none⟩)] 182)).alloc (.cells #[.pointer (some ⟨1, 182, none⟩), .pointer (some ⟨w.heap.size, 0, none⟩), .int .u64 150] 220)).alloc (.cells #[.pointer (some ⟨1, 182, none⟩), .pointer (some ⟨w.heap.size, 0, none⟩), .int .u64 150] 220)) (by rw [World.cell?_alloc_lt _ _ ⟨w.heap.size, 0, none⟩ (by simp; omega)]; simp)
  have hgW : ((((w.alloc (.cells #[.pointer (some ⟨g, 0, none⟩)] 182)).alloc (.cells #[.pointer (some ⟨1, 182, none⟩), .pointer (some ⟨w.heap.size, 0, none⟩), .int .u64 150] 220)).alloc (.cells #[.pointer (some ⟨1, 182, none⟩), .pointer (some ⟨w.heap.size, 0, none⟩), .int .u64 150] 220)).alloc (.cells #[x, y] 180)).heap[g]? = some (.cells cur 180 (0, 0)) := by
    rw [Lib.alloc_old _ _ g (by simp; omega), Lib.alloc_old _ _ g (by simp; omega), Lib.alloc_old _ _ g (by simp; omega), Lib.alloc_old _ _ g hgl]; exact hg
  have st := as_set g (w.heap.size + 1 + 1 + 1) x y cur ((((w.alloc (.cells #[.pointer (some ⟨g, 0, none⟩)] 182)).alloc (.cells #[.pointer (some ⟨1, 182, none⟩), .pointer (some ⟨w.heap.size, 0, none⟩), .int .u64 150] 220)).alloc (.cells #[.pointer (some ⟨1, 182, none⟩), .pointer (some ⟨w.heap.size, 0, none⟩), .int .u64 150] 220)).alloc (.cells #[x, y] 180)) hx hy (by have h := heap_alloc_new (((w.alloc (.cells #[.pointer (some ⟨g, 0, none⟩)] 182)).alloc (.cells #[.pointer (some ⟨1, 182, none⟩), .pointer (some ⟨w.heap.size, 0, none⟩), .int .u64 150] 220)).alloc (.cells #[.pointer (some ⟨1, 182, none⟩), .pointer (some ⟨w.heap.size, 0, none⟩), .int .u64 150] 220)) (.cells #[x, y] 180 (0, 0)); simpa using h) hgW hc
  have hT : Touch w ((((w.alloc (.cells #[.pointer (some ⟨g, 0, none⟩)] 182)).alloc (.cells #[.pointer (some ⟨1, 182, none⟩), .pointer (some ⟨w.heap.size, 0, none⟩), .int .u64 150] 220)).alloc (.cells #[.pointer (some ⟨1, 182, none⟩), .pointer (some ⟨w.heap.size, 0, none⟩), .int .u64 150] 220)).alloc (.cells #[x, y] 180)) (fun _ => False) := (((touch_alloc _ _ _).trans (touch_alloc _ _ _)).trans (touch_alloc _ _ _)).trans (touch_alloc _ _ _)
  go_enter Tryz.func104, Tryz.ntmps104
  go_wp2
  refine wp_loop_rounds 1 ?_
  rw [rounds_succ]
  go_wp2
  go_ret
  refine ⟨rfl, setRow_heap _ g cur _ 180 _ hgW, ⟨hT.os, hT.tape, hT.output, ?_, fun k hk hkg => ?_⟩⟩
  · exact Nat.le_trans hT.size (by simp [World.setRow])
  · rw [setRow_other _ g k _ hkg]; exact hT.block k hk (fun h => h)
end
theorem as_4 (a0 : Int) (o0 o1 : AV) : CallP Tryz.prog 104 [.var 180 [o0, o1]] [.ifc 180 (.agg [vI a0, .ifc 178 (.agg [])]), .ifc 182 (.ptr 0 0)] (fun r H' => r = .v (.bool true) ∧ H'.take ([.var 180 [vI a0, .ifc 178 (.agg [])]] : List Ob).length = [.var 180 [vI a0, .ifc 178 (.agg [])]]) :=
  callP_as (callable_of Tryz.func104 rfl (by kernel_rfl)) (x := (.iface 180 (.agg #[(.int .i64 a0), (.iface 178 (.agg #[]))]))) (vals := #[(.int .i64 a0), (.iface 178 (.agg #[]))]) (fun b us w hG hb hs => as_hit b _ _ us w rfl rfl hG hb hs) (fun w F e v h => conc_inv _ _ _ h rfl) rfl rfl (fun w F e j s hj => by
    match j, hj with
    | 0, hj => cases hj; exact conc_rep _ _ rfl
    | 1, hj => cases hj; exact conc_rep _ _ rfl
    | j + 2, hj => simp at hj)
theorem is_5_T (v : Value) (w : World) : (Extern.ReflectliteType.typeOf #[.iface 178 v]).run Tryz.prog w = .ok (.iface 243 (.agg #[.pointer (some ⟨1, 178, none⟩)])) w := by kernel_rfl
theorem is_5_C (w : World) : ((Extern.ReflectliteType.method fun t => (do Go.Extern.Rtype.noPackHeld "Comparable" t; (fun a => Value.bool a.comparable) <$> typeInfo t)) #[.agg #[.pointer (some ⟨1, 178, none⟩)]]).run Tryz.prog w = .ok (.bool true) w := by kernel_rfl
theorem is_5_M (v : Value) (w : World) : (Go.method 388 243 v "Comparable").run Tryz.prog w = .ok (209, v) w := by kernel_rfl
theorem is_5_0_I (v : Value) (xT : TypeId) (w : World) : (Instr.typeAssert (.iface 180 v) xT 255 true).run Tryz.prog w = .ok (.tuple #[.nilIface, .bool false]) w := run_typeAssert_lacksB Tryz.underlying255 (by kernel_rfl) (by kernel_rfl) v xT w
theorem is_5_0_U (v : Value) (xT : TypeId) (w : World) : (Instr.typeAssert (.iface 180 v) xT 250 true).run Tryz.prog w = .ok (.tuple #[.iface 180 v, .bool true]) w := run_typeAssert_hasB Tryz.underlying250 (by kernel_rfl) v xT w
theorem is_5_0_N (v : Value) (w : World) : (Go.method 388 180 v "Unwrap").run Tryz.prog w = .ok (203, v) w := by kernel_rfl
theorem is_5_1_E (w : World) : (binOp .eql 107 (.iface 178 (.agg #[])) (.iface 178 (.agg #[]))).run Tryz.prog w = .ok (.bool true) w := by kernel_rfl
theorem is_5_calls (a0 : Int) (w : World) : Calls Tryz.prog 105 #[(.iface 180 (.agg #[(.int .i64 a0), (.iface 178 (.agg #[]))])), (.iface 178 (.agg #[]))] w fun en w' => en = .returned (.bool true) ∧ Touch w w' (fun _ => False) := by
  have h1 := @run_callFunc_extern Tryz.prog 153 _ Extern.ReflectliteType.typeOf Tryz.func153 (by kernel_rfl) (by kernel_rfl) (by kernel_rfl) (by kernel_rfl)
  have h2 := @run_callFunc_extern Tryz.prog 209 _ (Extern.ReflectliteType.method fun t => (do Go.Extern.Rtype.noPackHeld "Comparable" t; pure (.bool (← typeInfo t).comparable))) Tryz.func209 (by kernel_rfl) (by kernel_rfl) (by kernel_rfl) (by kernel_rfl)
  have h3 := is_5_T
  have h4 := is_5_C
  have h5 := is_5_M
  have e0 := fun v => run_eql_iface_types (P := Tryz.prog) 180 178 v (.agg #[]) Tryz.underlying107 (by decide)
  have i0 := is_5_0_I
  have u0 := is_5_0_U
  have n0 := is_5_0_N
  have e1 := is_5_1_E
  go_enter Tryz.func105, Tryz.ntmps105
  go_wp2
  refine wp_loop_rounds 2 ?_
  rw [rounds_succ]
  go_wp2
  rw [rounds_succ]
  go_wp2
  go_ret
  first | exact ⟨rfl, Touch.refl _ _⟩ | exact ⟨rfl, touch_alloc _ _ _⟩ | exact ⟨rfl, (touch_alloc _ _ _).trans (touch_alloc _ _ _)⟩

theorem is_5 (a0 : Int) : PureP Tryz.prog 105 [.ifc 180 (.agg [vI a0, .ifc 178 (.agg [])]), .ifc 178 (.agg [])] (fun a => a = .v (.bool true)) := pureClosed (v := .bool true) ⟨_, Tryz.func105, by simp [Tryz.f105], by simp [Tryz.f105]⟩ rfl rfl (is_5_calls a0)
theorem as_6 (a0 : Int) (o0 o1 : AV) : CallP Tryz.prog 104 [.var 180 [o0, o1]] [.ifc 180 (.agg [vI a0, .v .nilIface]), .ifc 182 (.ptr 0 0)] (fun r H' => r = .v (.bool true) ∧ H'.take ([.var 180 [vI a0, .v .nilIface]] : List Ob).length = [.var 180 [vI a0, .v .nilIface]]) :=
  callP_as (callable_of Tryz.func104 rfl (by kernel_rfl)) (x := (.iface 180 (.agg #[(.int .i64 a0), .nilIface]))) (vals := #[(.int .i64 a0), .nilIface]) (fun b us w hG hb hs => as_hit b _ _ us w rfl rfl hG hb hs) (fun w F e v h => conc_inv _ _ _ h rfl) rfl rfl (fun w F e j s hj => by
    match j, hj with
    | 0, hj => cases hj; exact conc_rep _ _ rfl
    | 1, hj => cases hj; exact conc_rep _ _ rfl
    | j + 2, hj => simp at hj)
theorem is_7_T (v : Value) (w : World) : (Extern.ReflectliteType.typeOf #[.iface 178 v]).run Tryz.prog w = .ok (.iface 243 (.agg #[.pointer (some ⟨1, 178, none⟩)])) w := by kernel_rfl
theorem is_7_C (w : World) : ((Extern.ReflectliteType.method fun t => (do Go.Extern.Rtype.noPackHeld "Comparable" t; (fun a => Value.bool a.comparable) <$> typeInfo t)) #[.agg #[.pointer (some ⟨1, 178, none⟩)]]).run Tryz.prog w = .ok (.bool true) w := by kernel_rfl
theorem is_7_M (v : Value) (w : World) : (Go.method 388 243 v "Comparable").run Tryz.prog w = .ok (209, v) w := by kernel_rfl
theorem is_7_0_I (v : Value) (xT : TypeId) (w : World) : (Instr.typeAssert (.iface 180 v) xT 255 true).run Tryz.prog w = .ok (.tuple #[.nilIface, .bool false]) w := run_typeAssert_lacksB Tryz.underlying255 (by kernel_rfl) (by kernel_rfl) v xT w
theorem is_7_0_U (v : Value) (xT : TypeId) (w : World) : (Instr.typeAssert (.iface 180 v) xT 250 true).run Tryz.prog w = .ok (.tuple #[.iface 180 v, .bool true]) w := run_typeAssert_hasB Tryz.underlying250 (by kernel_rfl) v xT w
theorem is_7_0_N (v : Value) (w : World) : (Go.method 388 180 v "Unwrap").run Tryz.prog w = .ok (203, v) w := by kernel_rfl
theorem is_7_calls (a0 : Int) (w : World) : Calls Tryz.prog 105 #[(.iface 180 (.agg #[(.int .i64 a0), .nilIface])), (.iface 178 (.agg #[]))] w fun en w' => en = .returned (.bool false) ∧ Touch w w' (fun _ => False) := by
  have h1 := @run_callFunc_extern Tryz.prog 153 _ Extern.ReflectliteType.typeOf Tryz.func153 (by kernel_rfl) (by kernel_rfl) (by kernel_rfl) (by kernel_rfl)
  have h2 := @run_callFunc_extern Tryz.prog 209 _ (Extern.ReflectliteType.method fun t => (do Go.Extern.Rtype.noPackHeld "Comparable" t; pure (.bool (← typeInfo t).comparable))) Tryz.func209 (by kernel_rfl) (by kernel_rfl) (by kernel_rfl) (by kernel_rfl)
  have h3 := is_7_T
  have h4 := is_7_C
  have h5 := is_7_M
  have e0 := fun v => run_eql_iface_types (P := Tryz.prog) 180 178 v (.agg #[]) Tryz.underlying107 (by decide)
  have i0 := is_7_0_I
  have u0 := is_7_0_U
  have n0 := is_7_0_N
  go_enter Tryz.func105, Tryz.ntmps105
  go_wp2
  refine wp_loop_rounds 1 ?_
  rw [rounds_succ]
  go_wp2
  go_ret
  first | exact ⟨rfl, Touch.refl _ _⟩ | exact ⟨rfl, touch_alloc _ _ _⟩ | exact ⟨rfl, (touch_alloc _ _ _).trans (touch_alloc _ _ _)⟩

theorem is_7 (a0 : Int) : PureP Tryz.prog 105 [.ifc 180 (.agg [vI a0, .v .nilIface]), .ifc 178 (.agg [])] (fun a => a = .v (.bool false)) := pureClosed (v := .bool false) ⟨_, Tryz.func105, by simp [Tryz.f105], by simp [Tryz.f105]⟩ rfl rfl (is_7_calls a0)
end Go.Ab
