/- The same steps, with what they make reckoned out at once, so that a long walk stays short; and what is reckoned may be put under another name. -/
import Derived.Test.YthhddlhgkejhbaaStAbsP
namespace Go.Ab
set_option linter.unusedVariables false
set_option linter.unusedSimpArgs false

def forceN : Nat → (Nat → Prop) → Prop
  | 0, q => q 0
  | n + 1, q => forceN n fun m => q (m + 1)
theorem forceN_eq (n : Nat) (q : Nat → Prop) : forceN n q = q n := by
  induction n generalizing q with
  | zero => rfl
  | succ n ih => exact ih _

def forceA1 (x : AV) (q : AV → Prop) : Prop :=
  match x with
  | .v x => q (.v x)
  | .sl xs => q (.sl xs)
  | .ptr o off => q (.ptr o off)
  | .row o n => q (.row o n)
  | .rptr o n sz i off => q (.rptr o n sz i off)
  | .vw o n sz lo hi => q (.vw o n sz lo hi)
  | .eptr cs => q (.eptr cs)
  | .fn f a b => q (.fn f a b)
  | .ifc t x => q (.ifc t x)
  | .agg cs => q (.agg cs)
  | .tup vs => q (.tup vs)
  | .dead => q .dead
theorem forceA1_eq (x : AV) (q : AV → Prop) : forceA1 x q = q x := by cases x <;> rfl

def forceL : List AV → (List AV → Prop) → Prop
  | [], q => q []
  | a :: r, q => forceA1 a fun a => forceL r fun r => q (a :: r)
theorem forceL_eq (l : List AV) (q : List AV → Prop) : forceL l q = q l := by
  induction l generalizing q with
  | nil => rfl
  | cons a r ih => rw [forceL, forceA1_eq, ih]

def forceA (x : AV) (q : AV → Prop) : Prop :=
  match x with
  | .v x => q (.v x)
  | .sl xs => q (.sl xs)
  | .ptr o off => forceN o fun o => q (.ptr o off)
  | .row o n => forceN o fun o => q (.row o n)
  | .rptr o n sz i off => forceN o fun o => q (.rptr o n sz i off)
  | .vw o n sz lo hi => forceN o fun o => q (.vw o n sz lo hi)
  | .eptr cs => q (.eptr cs)
  | .fn f a b => forceL a fun a => forceL b fun b => q (.fn f a b)
  | .ifc t x => forceA1 x fun x => q (.ifc t x)
  | .agg cs => forceL cs fun cs => q (.agg cs)
  | .tup vs => forceL vs fun vs => q (.tup vs)
  | .dead => q .dead
theorem forceA_eq (x : AV) (q : AV → Prop) : forceA x q = q x := by
  cases x <;> simp only [forceA, forceN_eq, forceA1_eq, forceL_eq]

def forceO (o : Ob) (q : Ob → Prop) : Prop :=
  match o with
  | .var T cs => forceL cs fun cs => q (.var T cs)
  | .row el sz xs => q (.row el sz xs)
  | .frz sz xs => q (.frz sz xs)
  | .gone => q .gone
theorem forceO_eq (x : Ob) (q : Ob → Prop) : forceO x q = q x := by
  cases x <;> simp only [forceO, forceL_eq]
def forceH : List Ob → (List Ob → Prop) → Prop
  | [], q => q []
  | a :: r, q => forceO a fun a => forceH r fun r => q (a :: r)
theorem forceH_eq (l : List Ob) (q : List Ob → Prop) : forceH l q = q l := by
  induction l generalizing q with
  | nil => rfl
  | cons a r ih => rw [forceH, forceO_eq, ih]

/-- A number, reckoned out. -/
def force1 (n : Nat) (q : Nat → Prop) : Prop :=
  match n with
  | 0 => q 0
  | k + 1 => q (k + 1)
theorem force1_eq (n : Nat) (q : Nat → Prop) : force1 n q = q n := by cases n <;> rfl

def putS (S : St) (d : Option Nat) (r : AV) (K : St → Prop) : Prop :=
  match S, d with
  | ⟨n, base, regs, H⟩, some d => force1 n fun n => force1 base fun base => forceA r fun r => K ⟨n, base, upd regs d r, H⟩
  | ⟨n, base, regs, H⟩, none => force1 n fun n => force1 base fun base => K ⟨n, base, regs, H⟩
theorem putS_eq (S : St) (d : Option Nat) (r : AV) (K : St → Prop) : putS S d r K = K (S.put d r) := by
  cases S; cases d <;> simp only [putS, forceA_eq, force1_eq, St.put]
def putH (S : St) (H : List Ob) (d : Option Nat) (r : AV) (K : St → Prop) : Prop :=
  match S, d with
  | ⟨n, base, regs, _⟩, some d => force1 n fun n => force1 base fun base => forceA r fun r => forceH H fun H => K ⟨n, base, upd regs d r, H⟩
  | ⟨n, base, regs, _⟩, none => force1 n fun n => force1 base fun base => forceH H fun H => K ⟨n, base, regs, H⟩
theorem putH_eq (S : St) (H : List Ob) (d : Option Nat) (r : AV) (K : St → Prop) : putH S H d r K = K ((S.withHeap H).put d r) := by
  cases S; cases d <;> simp only [putH, forceA_eq, forceH_eq, force1_eq, St.put, St.withHeap]

/-- Is what is made worth a name of its own? -/
def hookB (S : St) (o : Op) : Bool :=
  match o with
  | .binOp _ _ x _ _ => (match S.ev x with | .v (.string _) => true | .agg _ => true | .sl _ => true | _ => false)
  | .index _ _ _ => true
  | .slice _ _ _ _ _ => true
  | .convert _ _ _ => true
  | .call c => (match c.callee with | .builtin .len => true | _ => false)
  | _ => false
def hookR (h : Bool) (r : AV) (k : AV → Prop) : Prop :=
  match h with
  | true =>
    (match r with
    | .v (.string x) => Re x fun z => k (.v (.string z))
    | .v (.bool x) => Re x fun z => k (.v (.bool z))
    | .v (.int K x) => Re x fun z => k (.v (.int K z))
    | .sl xs => Re xs fun z => k (.sl z)
    | r => k r)
  | false => k r
theorem hookR_eq (h : Bool) (r : AV) (k : AV → Prop) : hookR h r k = k r := by
  unfold hookR
  cases h
  · rfl
  · simp only
    split <;> simp only [Re_eq]

def step2 (P : Program) (G : Gm) (S : St) (o : Oper) (K : St → Prop) : Prop :=
  Chk (S.okD o.dst) <|
  match o.op with
  | .alloc T => (match ty G.tys T with | some ti => putH S (S.heap ++ [.var T (ti.zero.map .v)]) o.dst (.ptr S.heap.length 0) K | none => False)
  | .box T x => (match cellsB (S.ev x) with | some cs => putH S (S.heap ++ [.var T cs]) o.dst (.ptr S.heap.length 0) K | none => False)
  | .store T a x =>
    (match ty G.tys T, cellsB (S.ev x) with
    | some ti, some ys => Chk (Nat.beq ys.length ti.size && ones ys) <| storeS S (S.ev a) ys fun S' => putH S' S'.heap o.dst .dead K
    | _, _ => False)
  | .buildSlice T n parts =>
    (match ty G.tys T with
    | some tl =>
      (match tl.u with
      | .slice el =>
        (match ty G.tys el with
        | some te => Chk (Nat.beq parts.toList.length n && Nat.ble 1 te.size && Nat.ble (n * te.size) 16777216) <| rowsV S te.size S.heap 0 parts.toList fun H xs => Re xs fun xs => putH S (H ++ [.row el te.size xs]) o.dst (.row H.length n) K
        | none => False)
      | _ => False)
    | none => False)
  | .call c => callOp P G S c (valOp G.tys S o.op fun r => hookR (hookB S o.op) r fun r => putS S o.dst r K) fun r S' => putH S' S'.heap o.dst r K
  | op => valOp G.tys S op fun r => hookR (hookB S op) r fun r => putS S o.dst r K
theorem withHeap_self (S : St) : S.withHeap S.heap = S := rfl
theorem step2_eq (P : Program) (G : Gm) (S : St) (o : Oper) (K : St → Prop) : step2 P G S o K = step P G S o K := by
  unfold step2 step
  simp only [putS_eq, putH_eq, hookR_eq, withHeap_self]
  cases o.op <;> rfl
end Go.Ab
