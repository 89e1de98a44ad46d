/- One operation of whatever kind, over abstract states. -/
import Derived.Test.YthhddlhgkejhbaaStAbsK
namespace Go.Ab
set_option linter.unusedVariables false
set_option linter.unusedSimpArgs false

/-! ### Contracts -/
def Callable (P : Program) (g : FuncId) : Prop := ∃ fn, P.funcs[g]? = some fn ∧ (fn.name == "runtime.NumGoroutine") = false ∧ fn.body.isNone = false

theorem run_callFunc {P : Program} {g : FuncId} (h : Callable P g) (args : Array Value) (w : World) : (callFunc g args).run P w = .ok (.enter g args) w := by
  obtain ⟨fn, h1, h2, h3⟩ := h
  unfold callFunc
  rw [Sem.run_bind, run_program]
  simp only [Result.andThen_ok, h1, h2, h3, Bool.false_eq_true, if_false, Sem.run_pure]

structure PureP (P : Program) (g : FuncId) (args : List AV) (K : AV → Prop) : Prop where
  call : Callable P g
  run : ∀ (w : World) (F : Nat → Prop) (vs : Array Value), (∀ b, F b → b < w.heap.size) → RepCells w F Env.nil args vs → Calls P g vs w fun en w' =>
    ∃ r x F', en = .returned x ∧ K r ∧ Rep w' F' Env.nil r x ∧ (∀ b, F b → F' b) ∧ (∀ b, F' b → F b ∨ w.heap.size ≤ b) ∧ (∀ b, F' b → b < w'.heap.size) ∧ Touch w w' (fun _ => False)

structure CallP (P : Program) (g : FuncId) (H : List Ob) (args : List AV) (K : AV → List Ob → Prop) : Prop where
  call : Callable P g
  run : ∀ (C : Ctx) (w : World) (F : Nat → Prop) (e : Env) (vs : Array Value), Mem C H w F e → RepCells w F e args vs → Calls P g vs w fun en w' =>
    ∃ r x H' F' e', en = .returned x ∧ K r H' ∧ Mem C H' w' F' e' ∧ Rep w' F' e' r x ∧ EnvLe e e' ∧ Later w F w' F'

/-- A call that hands back a row of its own. -/
structure FreshP (P : Program) (g : FuncId) (args : List AV) (el sz : Nat) (K : List (List AV) → Prop) : Prop where
  call : Callable P g
  run : ∀ (w : World) (F : Nat → Prop) (vs : Array Value), (∀ b, F b → b < w.heap.size) → RepCells w F Env.nil args vs → Calls P g vs w fun en w' =>
    ∃ xs x F', en = .returned x ∧ K xs ∧ OwnRow w' F' el sz xs x ∧ (∀ b, x.ownBlock = some b → w.heap.size ≤ b) ∧ (∀ b, F b → F' b) ∧ (∀ b, F' b → F b ∨ w.heap.size ≤ b) ∧ (∀ b, F' b → b < w'.heap.size) ∧ Touch w w' (fun _ => False)

theorem FreshP.mono {P : Program} {g : FuncId} {args : List AV} {el sz : Nat} {K K' : List (List AV) → Prop} (h : FreshP P g args el sz K) (hk : ∀ r, K r → K' r) : FreshP P g args el sz K' :=
  ⟨h.call, fun w F vs hb hr => (h.run w F vs hb hr).mono fun en w' ⟨xs, x, F', h1, h2, h3⟩ => ⟨xs, x, F', h1, hk xs h2, h3⟩⟩
theorem PureP.mono {P : Program} {g : FuncId} {args : List AV} {K K' : AV → Prop} (h : PureP P g args K) (hk : ∀ r, K r → K' r) : PureP P g args K' :=
  ⟨h.call, fun w F vs hb hr => (h.run w F vs hb hr).mono fun en w' ⟨r, x, F', h1, h2, h3⟩ => ⟨r, x, F', h1, hk r h2, h3⟩⟩
theorem CallP.mono {P : Program} {g : FuncId} {H : List Ob} {args : List AV} {K K' : AV → List Ob → Prop} (h : CallP P g H args K) (hk : ∀ r H', K r H' → K' r H') : CallP P g H args K' :=
  ⟨h.call, fun C w F e vs hm hr => (h.run C w F e vs hm hr).mono fun en w' ⟨r, x, H', F', e', h1, h2, h3⟩ => ⟨r, x, H', F', e', h1, hk r H' h2, h3⟩⟩

/-- A call that takes a row that is ours, and hands back a row. -/
structure EatP (P : Program) (g : FuncId) (el sz : Nat) (xs : List (List AV)) (args : List AV) (K : List (List AV) → Prop) : Prop where
  call : Callable P g
  run : ∀ (w : World) (F : Nat → Prop) (v : Value) (vs : Array Value), (∀ b, F b → b < w.heap.size) → OwnRow w F el sz xs v → RepCells w F Env.nil args vs → Calls P g (#[v] ++ vs) w fun en w' =>
    ∃ ys x F', en = .returned x ∧ K ys ∧ OwnRow w' F' el sz ys x ∧ (∀ b, x.ownBlock = some b → v.ownBlock = some b ∨ w.heap.size ≤ b) ∧ (∀ b, F b → F' b) ∧ (∀ b, F' b → F b ∨ w.heap.size ≤ b ∨ v.ownBlock = some b) ∧ (∀ b, F' b → b < w'.heap.size) ∧ Touch w w' (fun b => v.ownBlock = some b)

theorem EatP.mono {P : Program} {g : FuncId} {el sz : Nat} {xs : List (List AV)} {args : List AV} {K K' : List (List AV) → Prop} (h : EatP P g el sz xs args K) (hk : ∀ r, K r → K' r) : EatP P g el sz xs args K' :=
  ⟨h.call, fun w F v vs hb ho hr => (h.run w F v vs hb ho hr).mono fun en w' ⟨xs, x, F', h1, h2, h3⟩ => ⟨xs, x, F', h1, hk xs h2, h3⟩⟩

/-! ### Steps -/
structure Gm where
  tys : Tys
  raw : List FuncId
  fresh : List (FuncId × Nat × Nat)
  eats : List FuncId

def St.put (S : St) (d : Option Nat) (r : AV) : St :=
  match d with
  | some d => { S with regs := upd S.regs d r }
  | none => S
def St.okD (S : St) (d : Option Nat) : Bool :=
  match d with
  | some d => Nat.blt d S.n
  | none => true
def St.withHeap (S : St) (H : List Ob) : St := { S with heap := H }

def purA (H : List Ob) (a : AV) (k : AV → Prop) : Prop :=
  match a with
  | .agg cs => purL H cs fun cs' => k (.agg cs')
  | a => purC H a k
def purAs (H : List Ob) : List AV → (List AV → Prop) → Prop
  | [], k => k []
  | a :: r, k => purA H a fun x => purAs H r fun xs => k (x :: xs)
def frzA (H : List Ob) : AV → List Ob
  | .agg cs => frzL H cs
  | a => frzC H a
def frzAs (H : List Ob) : List AV → List Ob
  | [] => H
  | a :: r => frzAs (frzA H a) r

def purable1 : AV → Bool
  | .v _ => true
  | .sl _ => true
  | .row _ _ => true
  | .ifc _ x => pureB x
  | _ => false
def purable : AV → Bool
  | .agg cs => cs.all purable1
  | a => purable1 a

def isV : AV → Bool
  | .v _ => true
  | _ => false
def scalarB : AV → Bool
  | .v _ => true
  | .tup vs => vs.all isV
  | _ => false

def freshOf (g : FuncId) : List (FuncId × Nat × Nat) → Option (Nat × Nat)
  | [] => none
  | p :: r => match Nat.beq p.1 g with | true => some p.2 | false => freshOf g r

def callS (P : Program) (G : Gm) (S : St) (g : FuncId) (args : List AV) (k : AV → St → Prop) : Prop :=
  match !(G.raw.contains g) && args.all purable with
  | true =>
    (match freshOf g G.fresh with
    | some p => purAs S.heap args fun as => FreshP P g as p.1 p.2 fun xs => k (.row (frzAs S.heap args).length xs.length) (S.withHeap (frzAs S.heap args ++ [.row p.1 p.2 xs]))
    | none => purAs S.heap args fun as => PureP P g as fun r => match scalarB r with | true => k r S | false => k r (S.withHeap (frzAs S.heap args)))
  | false =>
    (match G.eats.contains g with
    | true =>
      (match args with
      | .row o n :: rest =>
        (match (frzAs S.heap rest)[o]? with
        | some (.row el sz xs) => Chk (rest.all purable) <| Need (n = xs.length) <| purAs S.heap rest fun as => EatP P g el sz xs as fun ys =>
            k (.row ((frzAs S.heap rest).set o .gone).length ys.length) (S.withHeap ((frzAs S.heap rest).set o .gone ++ [.row el sz ys]))
        | _ => False)
      | _ => False)
    | false => CallP P g S.heap args fun r H' => k r (S.withHeap H'))

/-- What may be appended, copied: its elements. -/
def srcV (H : List Ob) (sz : Nat) (x : AV) (k : List (List AV) → Prop) : Prop :=
  match x with
  | .sl ys => Need (∀ cs ∈ ys, cs.length = sz) <| k ys
  | .row o n =>
    (match H[o]? with
    | some (.row _ sz' ys) => Chk (Nat.beq sz' sz) <| Need (n = ys.length) <| k ys
    | some (.frz sz' ys) => Chk (Nat.beq sz' sz) <| Need (n = ys.length) <| k ys
    | _ => False)
  | .v (.slice none 0 0) => k []
  | _ => False

def appendS (G : Gm) (S : St) (T : TypeId) (s x : AV) (k : AV → St → Prop) : Prop :=
  match ty G.tys T with
  | some tl =>
    (match tl.u with
    | .slice el =>
      (match ty G.tys el with
      | some te => Chk (Nat.ble 1 te.size && Nat.ble 1 te.bytes)
        (match s with
        | .row o n =>
          (match S.heap[o]? with
          | some (.row el' sz xs) => Chk (Nat.beq el' el && Nat.beq sz te.size) <| Need (n = xs.length) <| srcV S.heap te.size x fun ys =>
              Need ((xs.length + ys.length) * te.bytes ≤ 140737488355328) <| Re (xs ++ ys) fun zs => k (.row o zs.length) (S.withHeap (S.heap.set o (.row el te.size zs)))
          | _ => False)
        | .vw o n sz lo hi =>
          (match x, S.heap[o]? with
          | .vw o' n' sz' lo' hi', some (.row el' sz2 xs) => Chk (Nat.beq o' o && Nat.beq el' el && Nat.beq sz te.size && Nat.beq sz' te.size && Nat.beq sz2 te.size) <|
              Need (lo = 0 ∧ n = xs.length ∧ n' = xs.length ∧ hi + (hi' - lo') ≤ xs.length) <|
                Re (xs.take hi ++ (xs.drop lo').take (hi' - lo') ++ xs.drop (hi + (hi' - lo'))) fun zs => k (.vw o n te.size 0 (hi + (hi' - lo'))) (S.withHeap (S.heap.set o (.row el te.size zs)))
          | _, _ => False)
        | .v (.slice none 0 0) => srcV S.heap te.size x fun ys => Need (ys.length * te.bytes ≤ 140737488355328) <| Re ys fun ys => k (.row S.heap.length ys.length) (S.withHeap (S.heap ++ [.row el te.size ys]))
        | _ => False)
      | none => False)
    | _ => False)
  | none => False

def rowsV (S : St) (sz : Nat) : List Ob → Nat → List (Nat × Operand) → (List Ob → List (List AV) → Prop) → Prop
  | H, _, [], k => k H []
  | H, i, (j, x) :: r, k => Chk (Nat.beq j i) (match cellsB (S.ev x) with
    | some ys => Chk (Nat.beq ys.length sz && ones ys) <| purL H ys fun ys' => rowsV S sz (frzL H ys) (i + 1) r fun H' rest => k H' (ys' :: rest)
    | none => False)

def storeS (S : St) (a : AV) (ys : List AV) (k : St → Prop) : Prop :=
  match a with
  | .ptr o off => (match S.heap[o]? with | some (.var T cs) => Chk (Nat.ble (off + ys.length) cs.length) <| k (S.withHeap (S.heap.set o (.var T (putCells cs off ys)))) | _ => False)
  | .rptr o n sz i off =>
    (match S.heap[o]? with
    | some (.row el sz' xs) => Chk (Nat.beq sz sz') <| Need (n = xs.length) <| Elem xs i fun cs => Need (off + ys.length ≤ cs.length) <| Chk (pureBs ys) <|
        purL S.heap ys fun ys' => Re (xs.set i (putCells cs off ys')) fun zs => k (S.withHeap (S.heap.set o (.row el sz zs)))
    | _ => False)
  | _ => False

/-- 'clear' of a part of a row that is ours. -/
def clearS (G : Gm) (S : St) (T : TypeId) (x : AV) (k : St → Prop) : Prop :=
  match ty G.tys T with
  | some tl =>
    (match tl.u with
    | .slice el =>
      (match ty G.tys el, x with
      | some te, .vw o n sz lo hi =>
        (match S.heap[o]? with
        | some (.row el' sz' xs) => Chk (Nat.beq el' el && Nat.beq sz te.size && Nat.beq sz' te.size && ones (te.zero.map nrm)) <| Need (n = xs.length) <|
            Re (xs.take lo ++ List.replicate (hi - lo) (te.zero.map nrm) ++ xs.drop hi) fun zs => k (S.withHeap (S.heap.set o (.row el te.size zs)))
        | _ => False)
      | _, _ => False)
    | _ => False)
  | none => False

def callOp (P : Program) (G : Gm) (S : St) (c : Call) (q : Prop) (k : AV → St → Prop) : Prop :=
  match c.callee with
  | .builtin b =>
    (match b, c.args.toList, c.argTypes.toList with
    | .append, [s, x], [T, T'] => Chk (Nat.beq T T') <| appendS G S T (S.ev s) (S.ev x) k
    | .clear, [x], [T] => clearS G S T (S.ev x) fun S' => k .dead S'
    | _, _, _ => q)
  | .value f =>
    (match S.ev f with
    | .fn (.func g) first caps => callS P G S g (first ++ c.args.toList.map S.ev ++ caps) k
    | _ => False)
  | _ => False

/-- An operation, and what follows it. -/
def step (P : Program) (G : Gm) (S : St) (o : Oper) (K : St → Prop) : Prop :=
  Chk (S.okD o.dst) <|
  match o.op with
  | .alloc T => (match ty G.tys T with | some ti => K ((S.withHeap (S.heap ++ [.var T (ti.zero.map .v)])).put o.dst (.ptr S.heap.length 0)) | none => False)
  | .box T x => (match cellsB (S.ev x) with | some cs => K ((S.withHeap (S.heap ++ [.var T cs])).put o.dst (.ptr S.heap.length 0)) | none => False)
  | .store T a x =>
    (match ty G.tys T, cellsB (S.ev x) with
    | some ti, some ys => Chk (Nat.beq ys.length ti.size && ones ys) <| storeS S (S.ev a) ys fun S' => K (S'.put o.dst .dead)
    | _, _ => False)
  | .buildSlice T n parts =>
    (match ty G.tys T with
    | some tl =>
      (match tl.u with
      | .slice el =>
        (match ty G.tys el with
        | some te => Chk (Nat.beq parts.toList.length n && Nat.ble 1 te.size && Nat.ble (n * te.size) 16777216) <| rowsV S te.size S.heap 0 parts.toList fun H xs => Re xs fun xs => K ((S.withHeap (H ++ [.row el te.size xs])).put o.dst (.row H.length n))
        | none => False)
      | _ => False)
    | none => False)
  | .call c => callOp P G S c (valOp G.tys S o.op fun r => K (S.put o.dst r)) fun r S' => K (S'.put o.dst r)
  | op => valOp G.tys S op fun r => K (S.put o.dst r)

end Go.Ab
