/- The program's data as plain Lean data, and how the machine holds it. Printed by a program of this session. -/
import Derived.Test.YtdoceelfokmhfaaT
namespace Go.Ab
set_option linter.unusedSimpArgs false
set_option linter.unusedVariables false
structure Want where
  Mode : Int
  Lo : Str
  Hi : Str
  deriving DecidableEq, Inhabited
structure Hold where
  Txn : Int
  W : Want
  deriving DecidableEq, Inhabited
structure Claim where
  Txn : Int
  W : Want
  Until : Int
  deriving DecidableEq, Inhabited
structure Locks where
  Held : (List Hold)
  Queue : (List Claim)
  deriving DecidableEq, Inhabited
structure Act where
  Kind : Int
  Txn : Int
  W : Want
  deriving DecidableEq, Inhabited
structure LockFairIn where
  L : Locks
  Txn : Int
  W : Want
  I : Int
  deriving DecidableEq, Inhabited
structure LockAsksIn where
  L : Locks
  Txn : Int
  W : Want
  Until : Int
  N : Int
  Other : Locks
  deriving DecidableEq, Inhabited
def encWant (x : Want) : List AV := [.v (.int .i64 x.Mode), .v (.string (bs x.Lo)), .v (.string (bs x.Hi))]
def encHold (x : Hold) : List AV := [.v (.int .i64 x.Txn), .v (.int .i64 x.W.Mode), .v (.string (bs x.W.Lo)), .v (.string (bs x.W.Hi))]
def encClaim (x : Claim) : List AV := [.v (.int .i64 x.Txn), .v (.int .i64 x.W.Mode), .v (.string (bs x.W.Lo)), .v (.string (bs x.W.Hi)), .v (.int .u64 x.Until)]
def encLocks (x : Locks) : List AV := [.sl (List.map encHold x.Held), .sl (List.map encClaim x.Queue)]
def encAct (x : Act) : List AV := [.v (.int .i64 x.Kind), .v (.int .i64 x.Txn), .v (.int .i64 x.W.Mode), .v (.string (bs x.W.Lo)), .v (.string (bs x.W.Hi))]
def encLockFairIn (x : LockFairIn) : List AV := [.sl (List.map encHold x.L.Held), .sl (List.map encClaim x.L.Queue), .v (.int .i64 x.Txn), .v (.int .i64 x.W.Mode), .v (.string (bs x.W.Lo)), .v (.string (bs x.W.Hi)), .v (.int .i64 x.I)]
def encLockAsksIn (x : LockAsksIn) : List AV := [.sl (List.map encHold x.L.Held), .sl (List.map encClaim x.L.Queue), .v (.int .i64 x.Txn), .v (.int .i64 x.W.Mode), .v (.string (bs x.W.Lo)), .v (.string (bs x.W.Hi)), .v (.int .u64 x.Until), .v (.int .i64 x.N), .sl (List.map encHold x.Other.Held), .sl (List.map encClaim x.Other.Queue)]
theorem iff_Want (x y : Want) : x = y ↔ (x.Mode = y.Mode ∧ x.Lo = y.Lo ∧ x.Hi = y.Hi) := by cases x; cases y; simp
theorem eq_Want (x y : Want) : decide (x = y) = (decide (x.Mode = y.Mode) && (decide (bs x.Lo = bs y.Lo) && (decide (bs x.Hi = bs y.Hi) && true))) := by
  rw [Bool.eq_iff_iff]
  simp [iff_Want, bs_iff]
theorem iff_Hold (x y : Hold) : x = y ↔ (x.Txn = y.Txn ∧ x.W = y.W) := by cases x; cases y; simp
theorem eq_Hold (x y : Hold) : decide (x = y) = (decide (x.Txn = y.Txn) && ((decide (x.W.Mode = y.W.Mode) && (decide (bs x.W.Lo = bs y.W.Lo) && (decide (bs x.W.Hi = bs y.W.Hi) && true))) && true)) := by
  rw [Bool.eq_iff_iff]
  simp [iff_Want, iff_Hold, bs_iff]
theorem iff_Claim (x y : Claim) : x = y ↔ (x.Txn = y.Txn ∧ x.W = y.W ∧ x.Until = y.Until) := by cases x; cases y; simp
theorem eq_Claim (x y : Claim) : decide (x = y) = (decide (x.Txn = y.Txn) && ((decide (x.W.Mode = y.W.Mode) && (decide (bs x.W.Lo = bs y.W.Lo) && (decide (bs x.W.Hi = bs y.W.Hi) && true))) && (decide (x.Until = y.Until) && true))) := by
  rw [Bool.eq_iff_iff]
  simp [iff_Want, iff_Hold, iff_Claim, bs_iff]
theorem iff_Act (x y : Act) : x = y ↔ (x.Kind = y.Kind ∧ x.Txn = y.Txn ∧ x.W = y.W) := by cases x; cases y; simp
theorem eq_Act (x y : Act) : decide (x = y) = (decide (x.Kind = y.Kind) && (decide (x.Txn = y.Txn) && ((decide (x.W.Mode = y.W.Mode) && (decide (bs x.W.Lo = bs y.W.Lo) && (decide (bs x.W.Hi = bs y.W.Hi) && true))) && true))) := by
  rw [Bool.eq_iff_iff]
  simp [iff_Want, iff_Hold, iff_Claim, iff_Act, bs_iff]
open Go.Proofs
set_option linter.unusedVariables false
set_option linter.unusedSimpArgs false
set_option maxRecDepth 100000
def gm0 : Gm := ⟨tys, [], [], []⟩
theorem clone_59 (l : List Claim) (hl : l.length * 56 ≤ 140737488355328) : FreshP Try.prog 59 [.sl (List.map encClaim l)] 51 5 (fun ys => ys = List.map encClaim l) := by
  refine freshW (G := gm0) tyOk Try.func59 rfl (by kernel_rfl) (by simp [Try.f59]) ?_
  refine Tri.run (G := gm0) tyOk mixed ?_
  conv => whnf
  intro b hb
  conv => whnf
  refine ⟨⟨b, rfl, ?_⟩⟩
  conv => whnf
  refine cond_mk (fun c => ?_) (fun c => ?_)
  · conv => whnf
    refine fin_here ?_
    conv => whnf
    exact (hb c).symm
  · conv => whnf
    refine ⟨⟨List.map encClaim ([] : List Claim), rfl, ?_⟩⟩
    conv => whnf
    refine ⟨rfl, ?_⟩
    conv => whnf
    refine ⟨map_len (f := encClaim) (n := 5) (fun _ => rfl) _, ?_⟩
    conv => whnf
    refine ⟨by simp only [List.map_nil, List.length_nil, List.length_map, Nat.zero_add]; exact hl, ?_⟩
    conv => whnf
    refine ⟨⟨List.map encClaim l, by simp, ?_⟩⟩
    conv => whnf
    refine fin_here ?_
    conv => whnf
    exact ⟨rfl, rfl⟩
theorem clone_60 (l : List Hold) (hl : l.length * 48 ≤ 140737488355328) : FreshP Try.prog 60 [.sl (List.map encHold l)] 46 4 (fun ys => ys = List.map encHold l) := by
  refine freshW (G := gm0) tyOk Try.func60 rfl (by kernel_rfl) (by simp [Try.f60]) ?_
  refine Tri.run (G := gm0) tyOk mixed ?_
  conv => whnf
  intro b hb
  conv => whnf
  refine ⟨⟨b, rfl, ?_⟩⟩
  conv => whnf
  refine cond_mk (fun c => ?_) (fun c => ?_)
  · conv => whnf
    refine fin_here ?_
    conv => whnf
    exact (hb c).symm
  · conv => whnf
    refine ⟨⟨List.map encHold ([] : List Hold), rfl, ?_⟩⟩
    conv => whnf
    refine ⟨rfl, ?_⟩
    conv => whnf
    refine ⟨map_len (f := encHold) (n := 4) (fun _ => rfl) _, ?_⟩
    conv => whnf
    refine ⟨by simp only [List.map_nil, List.length_nil, List.length_map, Nat.zero_add]; exact hl, ?_⟩
    conv => whnf
    refine ⟨⟨List.map encHold l, by simp, ?_⟩⟩
    conv => whnf
    refine fin_here ?_
    conv => whnf
    exact ⟨rfl, rfl⟩
theorem delete_58 (l : List Claim) (i j : Int) (h : 0 ≤ i ∧ i ≤ j ∧ j ≤ (l.length : Int) ∧ (l.length : Int) < 4611686018427387904 ∧ 0 < l.length) :
    EatP Try.prog 58 51 5 (List.map encClaim l) [.v (.int .i64 i), .v (.int .i64 j)] (fun ys => ys = List.map encClaim (List.take i.toNat l ++ List.drop j.toNat l)) := by
  obtain ⟨h0, h1, h2, h3, h4⟩ := h
  have hlen : (List.map encClaim l).length = l.length := by simp
  refine eatW (G := gm0) tyOk Try.func58 rfl (by kernel_rfl) (by simp [Try.f58]) ?_
  refine Tri.run (G := gm0) tyOk mixed ?_
  conv => whnf
  refine ⟨rfl, ?_⟩
  conv => whnf
  refine ⟨⟨(l.length : Int), by simp, ?_⟩⟩
  conv => whnf
  refine ⟨rfl, ?_⟩
  conv => whnf
  refine ⟨⟨by simp, h0, h1, h2, by simp⟩, ?_⟩
  conv => whnf
  refine cond_mk (fun c => ?_) (fun c => ?_)
  · conv => whnf
    refine fin_here ?_
    conv => whnf
    refine ⟨rfl, ?_⟩
    have hij : i = j := by simpa using c
    subst hij
    rw [List.take_append_drop]
  · conv => whnf
    refine ⟨rfl, ?_⟩
    conv => whnf
    refine ⟨⟨(l.length : Int), by simp, ?_⟩⟩
    conv => whnf
    refine Draw.one 8 (.take 0 (.take 1 (.take 2 (.take 3 (.take 4 (.take 5 (.alt 6 (.take 7 .fin) .nil))))))) [] (by kernel_rfl) ?_
    conv => whnf
    refine ⟨⟨rfl, by rw [hlen]; exact h4⟩, ?_⟩
    conv => whnf
    refine ⟨⟨by omega, h0, by rw [hlen]; omega⟩, ?_⟩
    conv => whnf
    refine ⟨⟨rfl, by rw [hlen]; exact h4⟩, ?_⟩
    conv => whnf
    refine ⟨⟨by omega, by rw [hlen]; omega, by omega⟩, ?_⟩
    conv => whnf
    refine ⟨?_, ?_⟩
    · conv => whnf
      refine ⟨⟨rfl, rfl, rfl, by rw [hlen]; omega⟩, ?_⟩
      conv => whnf
      refine ⟨⟨_, rfl, ?_⟩⟩
      conv => whnf
      refine ⟨by simp; omega, ?_⟩
      conv => whnf
      refine ⟨⟨_, rfl, ?_⟩⟩
      conv => whnf
      refine ⟨by simp; omega, ?_⟩
      conv => whnf
      refine ⟨⟨by omega, by rw [hlen]; omega, by rw [hlen]; omega⟩, ?_⟩
      conv => whnf
      refine ⟨by simp; omega, ?_⟩
      conv => whnf
      refine ⟨⟨_, rfl, ?_⟩⟩
      conv => whnf
      refine fin_here ?_
      conv => whnf
      refine ⟨⟨rfl, by simp; omega⟩, ?_⟩
      conv => whnf
      have e1 : ((List.map encClaim l).length : Int).toNat = (List.map encClaim l).length := by simp
      have e2 : (((i.toNat + (((List.map encClaim l).length : Int).toNat - j.toNat) - 0 : Nat) : Int)).toNat = i.toNat + ((List.map encClaim l).length - j.toNat) := by omega
      rw [e2, e1, Nat.zero_add, Nat.zero_add, List.append_assoc, List.map_append, List.map_take, List.map_drop]
      exact del_list _ i.toNat j.toNat _ (by omega) (by rw [hlen]; omega)
    · trivial
end Go.Ab
