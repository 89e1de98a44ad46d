/- The program's data as plain Lean data, and how the machine holds it. Printed by a program of this session. -/
import Derived.Test.YthhddlhgkejhbaaT
import Derived.WalkKit
import Derived.LaidEql
import Derived.Stop.Asserts
import Derived.RowKitTokens
namespace Go.Ab
set_option linter.unusedSimpArgs false
set_option linter.unusedVariables false
structure File where
  Name : Str
  Safe : Str
  Wait : Str
  deriving DecidableEq, Inhabited
structure Disk where
  Files : (List File)
  Room : Int
  Fuse : Int
  Off : Bool
  deriving DecidableEq, Inhabited
structure Turn where
  Fuse : Int
  N : Int
  deriving DecidableEq, Inhabited
def encTurn (x : Turn) : List AV := [.v (.int .i64 x.Fuse), .v (.int .i64 x.N)]
def encFile (x : File) : List AV := [.v (.string (bs x.Name)), .v (.string (bs x.Safe)), .v (.string (bs x.Wait))]
def encDisk (x : Disk) : List AV := [.sl (List.map encFile x.Files), .v (.int .i64 x.Room), .v (.int .i64 x.Fuse), .v (.bool x.Off)]
theorem iff_Turn (x y : Turn) : x = y ↔ (x.Fuse = y.Fuse ∧ x.N = y.N) := by cases x; cases y; simp
theorem eq_Turn (x y : Turn) : decide (x = y) = (decide (x.Fuse = y.Fuse) && (decide (x.N = y.N) && true)) := by
  rw [Bool.eq_iff_iff]
  simp [iff_Turn, bs_iff]
theorem iff_File (x y : File) : x = y ↔ (x.Name = y.Name ∧ x.Safe = y.Safe ∧ x.Wait = y.Wait) := by cases x; cases y; simp
theorem eq_File (x y : File) : decide (x = y) = (decide (bs x.Name = bs y.Name) && (decide (bs x.Safe = bs y.Safe) && (decide (bs x.Wait = bs y.Wait) && true))) := by
  rw [Bool.eq_iff_iff]
  simp [iff_Turn, iff_File, bs_iff]
open Go.Proofs
set_option linter.unusedVariables false
set_option linter.unusedSimpArgs false
set_option maxRecDepth 100000
def gm0 : Gm := ⟨tys, [], [], []⟩
theorem clone_63 (l : List File) (hl : l.length * 48 ≤ 140737488355328) : FreshP Try.prog 63 [.sl (List.map encFile l)] 55 3 (fun ys => ys = List.map encFile l) := by
  refine freshW (G := gm0) tyOk Try.func63 rfl (by kernel_rfl) (by simp [Try.f63]) ?_
  refine Tri.run (G := gm0) tyOk mixed ?_
  conv => whnf
  intro b hb
  conv => whnf
  refine ⟨⟨b, rfl, ?_⟩⟩
  conv => whnf
  refine cond_mk (fun c => ?_) (fun c => ?_)
  · conv => whnf
    refine fin_here ?_
    conv => whnf
    exact (hb c).symm
  · conv => whnf
    refine ⟨⟨List.map encFile ([] : List File), rfl, ?_⟩⟩
    conv => whnf
    refine ⟨rfl, ?_⟩
    conv => whnf
    refine ⟨map_len (f := encFile) (n := 3) (fun _ => rfl) _, ?_⟩
    conv => whnf
    refine ⟨by simp only [List.map_nil, List.length_nil, List.length_map, Nat.zero_add]; exact hl, ?_⟩
    conv => whnf
    refine ⟨⟨List.map encFile l, by simp, ?_⟩⟩
    conv => whnf
    refine fin_here ?_
    conv => whnf
    exact ⟨rfl, rfl⟩
theorem delete_70 (l : List File) (i j : Int) (h : 0 ≤ i ∧ i ≤ j ∧ j ≤ (l.length : Int) ∧ (l.length : Int) < 4611686018427387904 ∧ 0 < l.length) :
    EatP Try.prog 70 55 3 (List.map encFile l) [.v (.int .i64 i), .v (.int .i64 j)] (fun ys => ys = List.map encFile (List.take i.toNat l ++ List.drop j.toNat l)) := by
  obtain ⟨h0, h1, h2, h3, h4⟩ := h
  have hlen : (List.map encFile l).length = l.length := by simp
  refine eatW (G := gm0) tyOk Try.func70 rfl (by kernel_rfl) (by simp [Try.f70]) ?_
  refine Tri.run (G := gm0) tyOk mixed ?_
  conv => whnf
  refine ⟨rfl, ?_⟩
  conv => whnf
  refine ⟨⟨(l.length : Int), by simp, ?_⟩⟩
  conv => whnf
  refine ⟨rfl, ?_⟩
  conv => whnf
  refine ⟨⟨by simp, h0, h1, h2, by simp⟩, ?_⟩
  conv => whnf
  refine cond_mk (fun c => ?_) (fun c => ?_)
  · conv => whnf
    refine fin_here ?_
    conv => whnf
    refine ⟨rfl, ?_⟩
    have hij : i = j := by simpa using c
    subst hij
    rw [List.take_append_drop]
  · conv => whnf
    refine ⟨rfl, ?_⟩
    conv => whnf
    refine ⟨⟨(l.length : Int), by simp, ?_⟩⟩
    conv => whnf
    refine Draw.one 8 (.take 0 (.take 1 (.take 2 (.take 3 (.take 4 (.take 5 (.alt 6 (.take 7 .fin) .nil))))))) [] (by kernel_rfl) ?_
    conv => whnf
    refine ⟨⟨rfl, by rw [hlen]; exact h4⟩, ?_⟩
    conv => whnf
    refine ⟨⟨by omega, h0, by rw [hlen]; omega⟩, ?_⟩
    conv => whnf
    refine ⟨⟨rfl, by rw [hlen]; exact h4⟩, ?_⟩
    conv => whnf
    refine ⟨⟨by omega, by rw [hlen]; omega, by omega⟩, ?_⟩
    conv => whnf
    refine ⟨?_, ?_⟩
    · conv => whnf
      refine ⟨⟨rfl, rfl, rfl, by rw [hlen]; omega⟩, ?_⟩
      conv => whnf
      refine ⟨⟨_, rfl, ?_⟩⟩
      conv => whnf
      refine ⟨by simp; omega, ?_⟩
      conv => whnf
      refine ⟨⟨_, rfl, ?_⟩⟩
      conv => whnf
      refine ⟨by simp; omega, ?_⟩
      conv => whnf
      refine ⟨⟨by omega, by rw [hlen]; omega, by rw [hlen]; omega⟩, ?_⟩
      conv => whnf
      refine ⟨by simp; omega, ?_⟩
      conv => whnf
      refine ⟨⟨_, rfl, ?_⟩⟩
      conv => whnf
      refine fin_here ?_
      conv => whnf
      refine ⟨⟨rfl, by simp; omega⟩, ?_⟩
      conv => whnf
      have e1 : ((List.map encFile l).length : Int).toNat = (List.map encFile l).length := by simp
      have e2 : (((i.toNat + (((List.map encFile l).length : Int).toNat - j.toNat) - 0 : Nat) : Int)).toNat = i.toNat + ((List.map encFile l).length - j.toNat) := by omega
      rw [e2, e1, Nat.zero_add, Nat.zero_add, List.append_assoc, List.map_append, List.map_take, List.map_drop]
      exact del_list _ i.toNat j.toNat _ (by omega) (by rw [hlen]; omega)
    · trivial
open Go.RowKit Go.Extern.Stop Go.Stop Go.Extern
theorem is_1_T (v : Value) (w : World) : (Extern.ReflectliteType.typeOf #[.iface 68 v]).run Try.prog w = .ok (.iface 102 (.agg #[.pointer (some ⟨0, 68, none⟩)])) w := by kernel_rfl
theorem is_1_C (w : World) : ((Extern.ReflectliteType.method fun t => (do Go.Extern.Rtype.noPackHeld "Comparable" t; (fun a => Value.bool a.comparable) <$> typeInfo t)) #[.agg #[.pointer (some ⟨0, 68, none⟩)]]).run Try.prog w = .ok (.bool true) w := by kernel_rfl
theorem is_1_M (v : Value) (w : World) : (Go.method 255 102 v "Comparable").run Try.prog w = .ok (92, v) w := by kernel_rfl
theorem is_1_0_I (v : Value) (xT : TypeId) (w : World) : (Instr.typeAssert (.iface 89 v) xT 104 true).run Try.prog w = .ok (.tuple #[.nilIface, .bool false]) w := run_typeAssert_lacksB Try.underlying104 (by kernel_rfl) (by kernel_rfl) v xT w
theorem is_1_0_U (v : Value) (xT : TypeId) (w : World) : (Instr.typeAssert (.iface 89 v) xT 107 true).run Try.prog w = .ok (.tuple #[.iface 89 v, .bool true]) w := run_typeAssert_hasB Try.underlying107 (by kernel_rfl) v xT w
theorem is_1_0_N (v : Value) (w : World) : (Go.method 255 89 v "Unwrap").run Try.prog w = .ok (88, v) w := by kernel_rfl
theorem is_1_1_E (w : World) : (binOp .eql 63 (.iface 68 (.agg #[])) (.iface 68 (.agg #[]))).run Try.prog w = .ok (.bool true) w := by kernel_rfl
theorem is_1_calls  (w : World) : Calls Try.prog 28 #[(.iface 89 (.agg #[(.iface 68 (.agg #[]))])), (.iface 68 (.agg #[]))] w fun en w' => en = .returned (.bool true) ∧ Touch w w' (fun _ => False) := by
  have h1 := @run_callFunc_extern Try.prog 43 _ Extern.ReflectliteType.typeOf Try.func43 (by kernel_rfl) (by kernel_rfl) (by kernel_rfl) (by kernel_rfl)
  have h2 := @run_callFunc_extern Try.prog 92 _ (Extern.ReflectliteType.method fun t => (do Go.Extern.Rtype.noPackHeld "Comparable" t; pure (.bool (← typeInfo t).comparable))) Try.func92 (by kernel_rfl) (by kernel_rfl) (by kernel_rfl) (by kernel_rfl)
  have h3 := is_1_T
  have h4 := is_1_C
  have h5 := is_1_M
  have e0 := fun v => run_eql_iface_types (P := Try.prog) 89 68 v (.agg #[]) Try.underlying63 (by decide)
  have i0 := is_1_0_I
  have u0 := is_1_0_U
  have n0 := is_1_0_N
  have e1 := is_1_1_E
  go_enter Try.func28, Try.ntmps28
  go_wp2
  refine wp_loop_rounds 2 ?_
  rw [rounds_succ]
  go_wp2
  rw [rounds_succ]
  go_wp2
  go_ret
  first | exact ⟨rfl, Touch.refl _ _⟩ | exact ⟨rfl, touch_alloc _ _ _⟩ | exact ⟨rfl, (touch_alloc _ _ _).trans (touch_alloc _ _ _)⟩

theorem is_1  : PureP Try.prog 28 [.ifc 89 (.agg [.ifc 68 (.agg [])]), .ifc 68 (.agg [])] (fun a => a = .v (.bool true)) := pureClosed (v := .bool true) ⟨_, Try.func28, by simp [Try.f28], by simp [Try.f28]⟩ rfl rfl (is_1_calls )
theorem is_2_calls  (w : World) : Calls Try.prog 28 #[.nilIface, (.iface 68 (.agg #[]))] w fun en w' => en = .returned (.bool false) ∧ Touch w w' (fun _ => False) := by
  have hn := run_eql_iface_nil_left (P := Try.prog) w 68 (.agg #[]) Try.underlying63
  go_enter Try.func28, Try.ntmps28
  go_wp2
  go_ret
  first | exact ⟨rfl, Touch.refl _ _⟩ | exact ⟨rfl, touch_alloc _ _ _⟩ | exact ⟨rfl, (touch_alloc _ _ _).trans (touch_alloc _ _ _)⟩

theorem is_2  : PureP Try.prog 28 [.v .nilIface, .ifc 68 (.agg [])] (fun a => a = .v (.bool false)) := pureClosed (v := .bool false) ⟨_, Try.func28, by simp [Try.f28], by simp [Try.f28]⟩ rfl rfl (is_2_calls )
end Go.Ab
