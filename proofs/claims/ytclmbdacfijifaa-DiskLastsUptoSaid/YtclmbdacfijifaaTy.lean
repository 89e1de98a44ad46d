/- The program's data as plain Lean data, and how the machine holds it. Printed by a program of this session. -/
import Derived.Test.YtclmbdacfijifaaT
namespace Go.Ab
set_option linter.unusedSimpArgs false
structure File where
  Name : Str
  Safe : Str
  Wait : Str
  deriving DecidableEq, Inhabited
structure Disk where
  Files : (List File)
  Room : Int
  Fuse : Int
  Off : Bool
  deriving DecidableEq, Inhabited
structure DiskActsIn where
  D : Disk
  Name : Str
  S : Str
  Room : Int
  deriving DecidableEq, Inhabited
structure DiskTwiceIn where
  D : Disk
  Keeps : (List Int)
  More : (List Int)
  Name : Str
  deriving DecidableEq, Inhabited
structure Act where
  Kind : Int
  N : Int
  Name : Str
  S : Str
  deriving DecidableEq, Inhabited
structure DiskLastsIn where
  Room : Int
  L : (List Act)
  Name : Str
  More : (List Act)
  deriving DecidableEq, Inhabited
structure DiskMovesIn where
  D : Disk
  From : Str
  To : Str
  Keeps : (List Int)
  Fuse : Int
  Other : Disk
  deriving DecidableEq, Inhabited
def encFile (x : File) : List AV := [.v (.string (bs x.Name)), .v (.string (bs x.Safe)), .v (.string (bs x.Wait))]
def encDisk (x : Disk) : List AV := [.sl (List.map encFile x.Files), .v (.int .i64 x.Room), .v (.int .i64 x.Fuse), .v (.bool x.Off)]
def encAct (x : Act) : List AV := [.v (.int .i64 x.Kind), .v (.int .i64 x.N), .v (.string (bs x.Name)), .v (.string (bs x.S))]
def encDiskLastsIn (x : DiskLastsIn) : List AV := [.v (.int .i64 x.Room), .sl (List.map encAct x.L), .v (.string (bs x.Name)), .sl (List.map encAct x.More)]
def encDiskTwiceIn (x : DiskTwiceIn) : List AV := [.sl (List.map encFile x.D.Files), .v (.int .i64 x.D.Room), .v (.int .i64 x.D.Fuse), .v (.bool x.D.Off), .sl (List.map (encI .i64) x.Keeps), .sl (List.map (encI .i64) x.More), .v (.string (bs x.Name))]
def encDiskActsIn (x : DiskActsIn) : List AV := [.sl (List.map encFile x.D.Files), .v (.int .i64 x.D.Room), .v (.int .i64 x.D.Fuse), .v (.bool x.D.Off), .v (.string (bs x.Name)), .v (.string (bs x.S)), .v (.int .i64 x.Room)]
def encDiskMovesIn (x : DiskMovesIn) : List AV := [.sl (List.map encFile x.D.Files), .v (.int .i64 x.D.Room), .v (.int .i64 x.D.Fuse), .v (.bool x.D.Off), .v (.string (bs x.From)), .v (.string (bs x.To)), .sl (List.map (encI .i64) x.Keeps), .v (.int .i64 x.Fuse), .sl (List.map encFile x.Other.Files), .v (.int .i64 x.Other.Room), .v (.int .i64 x.Other.Fuse), .v (.bool x.Other.Off)]
theorem iff_File (x y : File) : x = y ↔ (x.Name = y.Name ∧ x.Safe = y.Safe ∧ x.Wait = y.Wait) := by cases x; cases y; simp
theorem eq_File (x y : File) : decide (x = y) = (decide (bs x.Name = bs y.Name) && (decide (bs x.Safe = bs y.Safe) && (decide (bs x.Wait = bs y.Wait) && true))) := by
  rw [Bool.eq_iff_iff]
  simp [iff_File, bs_iff]
theorem iff_Act (x y : Act) : x = y ↔ (x.Kind = y.Kind ∧ x.N = y.N ∧ x.Name = y.Name ∧ x.S = y.S) := by cases x; cases y; simp
theorem eq_Act (x y : Act) : decide (x = y) = (decide (x.Kind = y.Kind) && (decide (x.N = y.N) && (decide (bs x.Name = bs y.Name) && (decide (bs x.S = bs y.S) && true)))) := by
  rw [Bool.eq_iff_iff]
  simp [iff_File, iff_Act, bs_iff]
open Go.Proofs
set_option linter.unusedVariables false
set_option linter.unusedSimpArgs false
set_option maxRecDepth 100000
def gm0 : Gm := ⟨tys, [], [], []⟩
theorem clone_35 (l : List File) (hl : l.length * 48 ≤ 140737488355328) : FreshP Try.prog 35 [.sl (List.map encFile l)] 29 3 (fun ys => ys = List.map encFile l) := by
  refine freshW (G := gm0) tyOk Try.func35 rfl (by kernel_rfl) (by simp [Try.f35]) ?_
  refine Tri.run (G := gm0) tyOk mixed ?_
  conv => whnf
  intro b hb
  conv => whnf
  refine ⟨⟨b, rfl, ?_⟩⟩
  conv => whnf
  refine cond_mk (fun c => ?_) (fun c => ?_)
  · conv => whnf
    refine fin_here ?_
    conv => whnf
    exact (hb c).symm
  · conv => whnf
    refine ⟨⟨List.map encFile ([] : List File), rfl, ?_⟩⟩
    conv => whnf
    refine ⟨rfl, ?_⟩
    conv => whnf
    refine ⟨map_len (f := encFile) (n := 3) (fun _ => rfl) _, ?_⟩
    conv => whnf
    refine ⟨by simp only [List.map_nil, List.length_nil, List.length_map, Nat.zero_add]; exact hl, ?_⟩
    conv => whnf
    refine ⟨⟨List.map encFile l, by simp, ?_⟩⟩
    conv => whnf
    refine fin_here ?_
    conv => whnf
    exact ⟨rfl, rfl⟩
theorem delete_47 (l : List File) (i j : Int) (h : 0 ≤ i ∧ i ≤ j ∧ j ≤ (l.length : Int) ∧ (l.length : Int) < 4611686018427387904 ∧ 0 < l.length) :
    EatP Try.prog 47 29 3 (List.map encFile l) [.v (.int .i64 i), .v (.int .i64 j)] (fun ys => ys = List.map encFile (List.take i.toNat l ++ List.drop j.toNat l)) := by
  obtain ⟨h0, h1, h2, h3, h4⟩ := h
  have hlen : (List.map encFile l).length = l.length := by simp
  refine eatW (G := gm0) tyOk Try.func47 rfl (by kernel_rfl) (by simp [Try.f47]) ?_
  refine Tri.run (G := gm0) tyOk mixed ?_
  conv => whnf
  refine ⟨rfl, ?_⟩
  conv => whnf
  refine ⟨⟨(l.length : Int), by simp, ?_⟩⟩
  conv => whnf
  refine ⟨rfl, ?_⟩
  conv => whnf
  refine ⟨⟨by simp, h0, h1, h2, by simp⟩, ?_⟩
  conv => whnf
  refine cond_mk (fun c => ?_) (fun c => ?_)
  · conv => whnf
    refine fin_here ?_
    conv => whnf
    refine ⟨rfl, ?_⟩
    have hij : i = j := by simpa using c
    subst hij
    rw [List.take_append_drop]
  · conv => whnf
    refine ⟨rfl, ?_⟩
    conv => whnf
    refine ⟨⟨(l.length : Int), by simp, ?_⟩⟩
    conv => whnf
    refine Draw.one 8 (.take 0 (.take 1 (.take 2 (.take 3 (.take 4 (.take 5 (.alt 6 (.take 7 .fin) .nil))))))) [] (by kernel_rfl) ?_
    conv => whnf
    refine ⟨⟨rfl, by rw [hlen]; exact h4⟩, ?_⟩
    conv => whnf
    refine ⟨⟨by omega, h0, by rw [hlen]; omega⟩, ?_⟩
    conv => whnf
    refine ⟨⟨rfl, by rw [hlen]; exact h4⟩, ?_⟩
    conv => whnf
    refine ⟨⟨by omega, by rw [hlen]; omega, by omega⟩, ?_⟩
    conv => whnf
    refine ⟨?_, ?_⟩
    · conv => whnf
      refine ⟨⟨rfl, rfl, rfl, by rw [hlen]; omega⟩, ?_⟩
      conv => whnf
      refine ⟨⟨_, rfl, ?_⟩⟩
      conv => whnf
      refine ⟨by simp; omega, ?_⟩
      conv => whnf
      refine ⟨⟨_, rfl, ?_⟩⟩
      conv => whnf
      refine ⟨by simp; omega, ?_⟩
      conv => whnf
      refine ⟨⟨by omega, by rw [hlen]; omega, by rw [hlen]; omega⟩, ?_⟩
      conv => whnf
      refine ⟨by simp; omega, ?_⟩
      conv => whnf
      refine ⟨⟨_, rfl, ?_⟩⟩
      conv => whnf
      refine fin_here ?_
      conv => whnf
      refine ⟨⟨rfl, by simp; omega⟩, ?_⟩
      conv => whnf
      have e1 : ((List.map encFile l).length : Int).toNat = (List.map encFile l).length := by simp
      have e2 : (((i.toNat + (((List.map encFile l).length : Int).toNat - j.toNat) - 0 : Nat) : Int)).toNat = i.toNat + ((List.map encFile l).length - j.toNat) := by omega
      rw [e2, e1, Nat.zero_add, Nat.zero_add, List.append_assoc, List.map_append, List.map_take, List.map_drop]
      exact del_list _ i.toNat j.toNat _ (by omega) (by rw [hlen]; omega)
    · trivial
end Go.Ab
