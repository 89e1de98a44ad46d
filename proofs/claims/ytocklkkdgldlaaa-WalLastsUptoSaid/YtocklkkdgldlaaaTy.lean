/- The program's data as plain Lean data, and how the machine holds it. Printed by a program of this session. -/
import Derived.Test.YtocklkkdgldlaaaT
namespace Go.Ab
set_option linter.unusedSimpArgs false
set_option linter.unusedVariables false
structure File where
  Name : Str
  Safe : Str
  Wait : Str
  deriving DecidableEq, Inhabited
structure Disk where
  Files : (List File)
  Room : Int
  Fuse : Int
  Off : Bool
  deriving DecidableEq, Inhabited
structure Act where
  Kind : Int
  N : Int
  S : Str
  deriving DecidableEq, Inhabited
structure World_ where
  D : Disk
  Seg : Int
  Put : (List Str)
  Safe : Int
  Dead : Bool
  deriving DecidableEq, Inhabited
structure WalDropsIn where
  D : Disk
  From : Int
  To : Int
  Name : Str
  deriving DecidableEq, Inhabited
def encFile (x : File) : List AV := [.v (.string (bs x.Name)), .v (.string (bs x.Safe)), .v (.string (bs x.Wait))]
def encAct (x : Act) : List AV := [.v (.int .i64 x.Kind), .v (.int .i64 x.N), .v (.string (bs x.S))]
def encDisk (x : Disk) : List AV := [.sl (List.map encFile x.Files), .v (.int .i64 x.Room), .v (.int .i64 x.Fuse), .v (.bool x.Off)]
def encWalDropsIn (x : WalDropsIn) : List AV := [.sl (List.map encFile x.D.Files), .v (.int .i64 x.D.Room), .v (.int .i64 x.D.Fuse), .v (.bool x.D.Off), .v (.int .i64 x.From), .v (.int .i64 x.To), .v (.string (bs x.Name))]
def encWorld_ (x : World_) : List AV := [.sl (List.map encFile x.D.Files), .v (.int .i64 x.D.Room), .v (.int .i64 x.D.Fuse), .v (.bool x.D.Off), .v (.int .i64 x.Seg), .sl (List.map encS x.Put), .v (.int .i64 x.Safe), .v (.bool x.Dead)]
theorem iff_File (x y : File) : x = y ↔ (x.Name = y.Name ∧ x.Safe = y.Safe ∧ x.Wait = y.Wait) := by cases x; cases y; simp
theorem eq_File (x y : File) : decide (x = y) = (decide (bs x.Name = bs y.Name) && (decide (bs x.Safe = bs y.Safe) && (decide (bs x.Wait = bs y.Wait) && true))) := by
  rw [Bool.eq_iff_iff]
  simp [iff_File, bs_iff]
theorem iff_Act (x y : Act) : x = y ↔ (x.Kind = y.Kind ∧ x.N = y.N ∧ x.S = y.S) := by cases x; cases y; simp
theorem eq_Act (x y : Act) : decide (x = y) = (decide (x.Kind = y.Kind) && (decide (x.N = y.N) && (decide (bs x.S = bs y.S) && true))) := by
  rw [Bool.eq_iff_iff]
  simp [iff_File, iff_Act, bs_iff]
open Go.Proofs
set_option linter.unusedVariables false
set_option linter.unusedSimpArgs false
set_option maxRecDepth 100000
def gm0 : Gm := ⟨tys, [], [], []⟩
theorem clone_63 (l : List File) (hl : l.length * 48 ≤ 140737488355328) : FreshP Try.prog 63 [.sl (List.map encFile l)] 69 3 (fun ys => ys = List.map encFile l) := by
  refine freshW (G := gm0) tyOk Try.func63 rfl (by kernel_rfl) (by simp [Try.f63]) ?_
  refine Tri.run (G := gm0) tyOk mixed ?_
  conv => whnf
  intro b hb
  conv => whnf
  refine ⟨⟨b, rfl, ?_⟩⟩
  conv => whnf
  refine cond_mk (fun c => ?_) (fun c => ?_)
  · conv => whnf
    refine fin_here ?_
    conv => whnf
    exact (hb c).symm
  · conv => whnf
    refine ⟨⟨List.map encFile ([] : List File), rfl, ?_⟩⟩
    conv => whnf
    refine ⟨rfl, ?_⟩
    conv => whnf
    refine ⟨map_len (f := encFile) (n := 3) (fun _ => rfl) _, ?_⟩
    conv => whnf
    refine ⟨by simp only [List.map_nil, List.length_nil, List.length_map, Nat.zero_add]; exact hl, ?_⟩
    conv => whnf
    refine ⟨⟨List.map encFile l, by simp, ?_⟩⟩
    conv => whnf
    refine fin_here ?_
    conv => whnf
    exact ⟨rfl, rfl⟩
theorem delete_79 (l : List File) (i j : Int) (h : 0 ≤ i ∧ i ≤ j ∧ j ≤ (l.length : Int) ∧ (l.length : Int) < 4611686018427387904 ∧ 0 < l.length) :
    EatP Try.prog 79 69 3 (List.map encFile l) [.v (.int .i64 i), .v (.int .i64 j)] (fun ys => ys = List.map encFile (List.take i.toNat l ++ List.drop j.toNat l)) := by
  obtain ⟨h0, h1, h2, h3, h4⟩ := h
  have hlen : (List.map encFile l).length = l.length := by simp
  refine eatW (G := gm0) tyOk Try.func79 rfl (by kernel_rfl) (by simp [Try.f79]) ?_
  refine Tri.run (G := gm0) tyOk mixed ?_
  conv => whnf
  refine ⟨rfl, ?_⟩
  conv => whnf
  refine ⟨⟨(l.length : Int), by simp, ?_⟩⟩
  conv => whnf
  refine ⟨rfl, ?_⟩
  conv => whnf
  refine ⟨⟨by simp, h0, h1, h2, by simp⟩, ?_⟩
  conv => whnf
  refine cond_mk (fun c => ?_) (fun c => ?_)
  · conv => whnf
    refine fin_here ?_
    conv => whnf
    refine ⟨rfl, ?_⟩
    have hij : i = j := by simpa using c
    subst hij
    rw [List.take_append_drop]
  · conv => whnf
    refine ⟨rfl, ?_⟩
    conv => whnf
    refine ⟨⟨(l.length : Int), by simp, ?_⟩⟩
    conv => whnf
    refine Draw.one 8 (.take 0 (.take 1 (.take 2 (.take 3 (.take 4 (.take 5 (.alt 6 (.take 7 .fin) .nil))))))) [] (by kernel_rfl) ?_
    conv => whnf
    refine ⟨⟨rfl, by rw [hlen]; exact h4⟩, ?_⟩
    conv => whnf
    refine ⟨⟨by omega, h0, by rw [hlen]; omega⟩, ?_⟩
    conv => whnf
    refine ⟨⟨rfl, by rw [hlen]; exact h4⟩, ?_⟩
    conv => whnf
    refine ⟨⟨by omega, by rw [hlen]; omega, by omega⟩, ?_⟩
    conv => whnf
    refine ⟨?_, ?_⟩
    · conv => whnf
      refine ⟨⟨rfl, rfl, rfl, by rw [hlen]; omega⟩, ?_⟩
      conv => whnf
      refine ⟨⟨_, rfl, ?_⟩⟩
      conv => whnf
      refine ⟨by simp; omega, ?_⟩
      conv => whnf
      refine ⟨⟨_, rfl, ?_⟩⟩
      conv => whnf
      refine ⟨by simp; omega, ?_⟩
      conv => whnf
      refine ⟨⟨by omega, by rw [hlen]; omega, by rw [hlen]; omega⟩, ?_⟩
      conv => whnf
      refine ⟨by simp; omega, ?_⟩
      conv => whnf
      refine ⟨⟨_, rfl, ?_⟩⟩
      conv => whnf
      refine fin_here ?_
      conv => whnf
      refine ⟨⟨rfl, by simp; omega⟩, ?_⟩
      conv => whnf
      have e1 : ((List.map encFile l).length : Int).toNat = (List.map encFile l).length := by simp
      have e2 : (((i.toNat + (((List.map encFile l).length : Int).toNat - j.toNat) - 0 : Nat) : Int)).toNat = i.toNat + ((List.map encFile l).length - j.toNat) := by omega
      rw [e2, e1, Nat.zero_add, Nat.zero_add, List.append_assoc, List.map_append, List.map_take, List.map_drop]
      exact del_list _ i.toNat j.toNat _ (by omega) (by rw [hlen]; omega)
    · trivial
end Go.Ab
