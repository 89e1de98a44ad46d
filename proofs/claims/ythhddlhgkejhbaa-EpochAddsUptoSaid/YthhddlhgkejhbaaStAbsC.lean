/- The table of value operations over abstract registers. -/
import Derived.Test.YthhddlhgkejhbaaStAbsB
namespace Go.Ab
set_option linter.unusedVariables false

/-- Something that is to be shown, and what follows. -/
structure Need (p : Prop) (k : Prop) : Prop where
  h : p
  k : k
/-- What is reckoned, under whatever name. -/
structure Re {α : Type} (x : α) (k : α → Prop) : Prop where
  out : ∃ z, z = x ∧ k z
theorem Re_eq {α : Type} (x : α) (k : α → Prop) : Re x k = k x := propext ⟨fun h => let ⟨z, e, h⟩ := h.out; e ▸ h, fun h => ⟨⟨x, rfl, h⟩⟩⟩
/-- There is such an element. -/
structure Elem (xs : List (List AV)) (i : Nat) (k : List AV → Prop) : Prop where
  out : ∃ cs, xs[i]? = some cs ∧ k cs
/-- What is reckoned out at once. -/
def Chk (b : Bool) (k : Prop) : Prop :=
  match b with
  | true => k
  | false => False
theorem Chk.elim {b : Bool} {k : Prop} (h : Chk b k) : b = true ∧ k := by
  cases b
  · exact False.elim h
  · exact ⟨rfl, h⟩
theorem Chk.eqn {m n : Nat} {k : Prop} (h : Chk (Nat.beq m n) k) : m = n ∧ k := ⟨Nat.eq_of_beq_eq_true h.elim.1, h.elim.2⟩
theorem Chk.len {m n : Nat} {k : Prop} (h : Chk (Nat.ble m n) k) : m ≤ n ∧ k := ⟨Nat.le_of_ble_eq_true h.elim.1, h.elim.2⟩
def kEq : IntKind → IntKind → Bool
  | .i8, .i8 => true
  | .i16, .i16 => true
  | .i32, .i32 => true
  | .i64, .i64 => true
  | .u8, .u8 => true
  | .u16, .u16 => true
  | .u32, .u32 => true
  | .u64, .u64 => true
  | _, _ => false
theorem kEq_eq {k k' : IntKind} (h : kEq k k' = true) : k = k' := by cases k <;> cases k' <;> simp_all [kEq]

/-- A byte of a string. -/
def byteAt (s : ByteArray) (i : Nat) : UInt8 := if h : i < s.size then s[i] else 0

def ltB (x y : ByteArray) : Bool := Op.bytesLess x.toList y.toList

def intV (op : BinOp) (k : IntKind) (a b : Int) (q : AV → Prop) : Prop :=
  match op with
  | .add => q (.v (.int k (k.wrap (a + b))))
  | .sub => q (.v (.int k (k.wrap (a - b))))
  | .mul => q (.v (.int k (k.wrap (a * b))))
  | .quo => Need (b ≠ 0) <| q (.v (.int k (k.wrap (a.tdiv b))))
  | .rem => Need (b ≠ 0) <| q (.v (.int k (a.tmod b)))
  | .and => q (.v (.int k (k.wrap ((BitVec.ofInt k.bits a &&& BitVec.ofInt k.bits b).toNat : Int))))
  | .or => q (.v (.int k (k.wrap ((BitVec.ofInt k.bits a ||| BitVec.ofInt k.bits b).toNat : Int))))
  | .eql => q (.v (.bool (decide (a = b))))
  | .neq => q (.v (.bool (!decide (a = b))))
  | .lss => q (.v (.bool (decide (a < b))))
  | .leq => q (.v (.bool (decide (a ≤ b))))
  | .gtr => q (.v (.bool (decide (a > b))))
  | .geq => q (.v (.bool (decide (a ≥ b))))
  | _ => False

def shiftV (op : BinOp) (k : IntKind) (a b : Int) (q : AV → Prop) : Prop :=
  match op with
  | .shl => Need (0 ≤ b) <| q (.v (.int k (k.wrap (a * 2 ^ (min b.toNat k.bits)))))
  | .shr => Need (0 ≤ b) <| q (.v (.int k (a.fdiv (2 ^ (min b.toNat k.bits)))))
  | _ => False

def strV (op : BinOp) (x y : ByteArray) (q : AV → Prop) : Prop :=
  match op with
  | .add => Need (x.size + y.size ≤ 9223372036854775807) <| q (.v (.string (x ++ y)))
  | .eql => q (.v (.bool (decide (x = y))))
  | .neq => q (.v (.bool (!decide (x = y))))
  | .lss => q (.v (.bool (ltB x y)))
  | .leq => q (.v (.bool (ltB x y || decide (x = y))))
  | .gtr => q (.v (.bool (!(ltB x y || decide (x = y)))))
  | .geq => q (.v (.bool (!ltB x y)))
  | _ => False

def cellsT (ti : TI) : AV → Option (List AV)
  | .agg cs => if ti.u.agg then some cs else none
  | x => if ti.u.agg then none else some [x]

mutual
/-- Are two values of a type equal? -/
def eqT (G : Tys) : Nat → TypeId → List AV → List AV → Option Bool
  | 0, _, _, _ => none
  | d + 1, t, xs, ys =>
    match ty G t with
    | none => none
    | some ti =>
      match ti.u, xs, ys with
      | .int _, [.v (.int k a)], [.v (.int k' b)] => if k = k' then some (decide (a = b)) else none
      | .bool, [.v (.bool a)], [.v (.bool b)] => some (a == b)
      | .str, [.v (.string a)], [.v (.string b)] => some (decide (a = b))
      | .struct fs, xs, ys => if ti.plain then eqFs G d fs xs ys else none
      | _, _, _ => none
def eqFs (G : Tys) : Nat → List (Nat × TypeId) → List AV → List AV → Option Bool
  | _, [], _, _ => some true
  | 0, _ :: _, _, _ => none
  | d + 1, f :: r, xs, ys =>
    match ty G f.2 with
    | none => none
    | some ti =>
      match readAV ti xs f.1, readAV ti ys f.1 with
      | some a, some b =>
        match cellsT ti a, cellsT ti b with
        | some ca, some cb =>
          match eqT G d f.2 ca cb, eqFs G d r xs ys with
          | some p, some q => some (p && q)
          | _, _ => none
        | _, _ => none
      | _, _ => none
end

/-- '==' on what is neither two whole numbers nor two strings. -/
def eqlV (G : Tys) (kc : Bool) (T : TypeId) (x y : AV) (q : Bool → Prop) : Prop :=
  match x, y with
  | .v (.bool a), .v (.bool b) => (match ty G T with | some ti => (match ti.u with | .bool => q (a == b) | _ => False) | none => False)
  | .agg xs, .agg ys =>
    (match ty G T with
    | some ti => Chk (ti.u.agg && ti.plain) (match eqT G 12 T xs ys with | some b => q b | none => False)
    | none => False)
  | .sl xs, .v (.slice none 0 0) => (match ty G T with | some ti => (match ti.u with | .slice _ => ∀ b, (b = true → xs = []) → q b | _ => False) | none => False)
  | .v (.slice none 0 0), .v (.slice none 0 0) => (match ty G T with | some ti => (match ti.u with | .slice _ => q true | _ => False) | none => False)
  | .ifc _ _, .v .nilIface => (match ty G T with | some ti => (match ti.u with | .iface => q false | _ => False) | none => False)
  | .v .nilIface, .v .nilIface => (match kc, ty G T with | true, some ti => (match ti.u with | .iface => q true | _ => False) | _, _ => False)
  | _, _ => False

/-- Is one of the two a constant? -/
def isK : Operand → Bool
  | .const _ => true
  | _ => false

def binV (G : Tys) (kc : Bool) (op : BinOp) (T : TypeId) (x y : AV) (q : AV → Prop) : Prop :=
  match op, x, y with
  | .shl, .v (.int k a), .v (.int _ b) => shiftV .shl k a b q
  | .shr, .v (.int k a), .v (.int _ b) => shiftV .shr k a b q
  | op, .v (.int k a), .v (.int k' b) => Chk (kEq k k') <| intV op k a b q
  | op, .v (.string a), .v (.string b) => strV op a b q
  | .eql, x, y => eqlV G kc T x y fun b => q (.v (.bool b))
  | .neq, x, y => eqlV G kc T x y fun b => q (.v (.bool (!b)))
  | _, _, _ => False

def unV (op : UnOp) (x : AV) (q : AV → Prop) : Prop :=
  match op, x with
  | .not, .v (.bool b) => q (.v (.bool (!b)))
  | .neg, .v (.int k n) => q (.v (.int k (k.wrap (0 - n))))
  | _, _ => False

def pickV (c a b : AV) (q : AV → Prop) : Prop :=
  match c with
  | .v (.bool c) =>
    (match a, b with
    | .v (.bool a), .v (.bool b) => q (.v (.bool (bif c then a else b)))
    | a, b => bif c then q a else q b)
  | _ => False

def loadV (S : St) (ti : TI) (x : AV) (q : AV → Prop) : Prop :=
  match x with
  | .ptr o off => (match S.heap[o]? with | some (.var _ cs) => (match readAV ti cs off with | some r => q r | none => False) | _ => False)
  | .eptr cs => (match readAV ti cs 0 with | some r => q r | none => False)
  | .rptr o n sz i off =>
    (match S.heap[o]? with
    | some (.row _ sz' xs) => Chk (Nat.beq sz sz') <| Need (n = xs.length) <| Elem xs i fun cs => (match readAV ti cs off with | some r => q r | none => False)
    | some (.frz sz' xs) => Chk (Nat.beq sz sz') <| Need (n = xs.length) <| Elem xs i fun cs => (match readAV ti cs off with | some r => q r | none => False)
    | _ => False)
  | _ => False

def fieldAddrV (G : Tys) (S : St) (T : TypeId) (x : AV) (f : Nat) (q : AV → Prop) : Prop :=
  match ty G T with
  | some ti =>
    (match ti.u with
    | .struct fs =>
      (match fs[f]? with
      | some (off, ft) =>
        (match ty G ft with
        | some tf => Chk (Nat.ble 1 tf.size)
          (match x with
          | .ptr o k => q (.ptr o (k + off))
          | .eptr cs => q (.eptr (cs.drop off))
          | .rptr o n sz i k => (match S.heap[o]? with | some (.row _ _ xs) => Need (n = xs.length) <| q (.rptr o n sz i (k + off)) | _ => False)
          | _ => False)
        | none => False)
      | none => False)
    | _ => False)
  | none => False

def fieldV (G : Tys) (T : TypeId) (x : AV) (f : Nat) (q : AV → Prop) : Prop :=
  match ty G T with
  | some ti =>
    (match ti.u with
    | .struct fs =>
      (match fs[f]? with
      | some (off, ft) =>
        (match ty G ft, x with
        | some tf, .agg cs => (match readAV tf cs off with | some r => q r | none => False)
        | _, _ => False)
      | none => False)
    | _ => False)
  | none => False

def indexAddrV (G : Tys) (S : St) (T : TypeId) (x i : AV) (q : AV → Prop) : Prop :=
  match ty G T, i with
  | some ti, .v (.int _ n) =>
    (match ti.u with
    | .slice el =>
      (match ty G el with
      | some te =>
        (match x with
        | .sl xs => Need (0 ≤ n) <| Elem xs n.toNat fun cs => Need (cs.length = te.size) <| q (.eptr cs)
        | .row o m =>
          (match S.heap[o]? with
          | some (.row _ sz xs) => Chk (Nat.beq sz te.size) <| Need (m = xs.length ∧ 0 ≤ n ∧ n < (m : Int)) <| q (.rptr o m sz n.toNat 0)
          | some (.frz sz xs) => Chk (Nat.beq sz te.size) <| Need (m = xs.length ∧ 0 ≤ n ∧ n < (m : Int)) <| Elem xs n.toNat fun cs => q (.eptr cs)
          | _ => False)
        | .vw o m sz lo hi =>
          (match S.heap[o]? with
          | some (.row _ sz' xs) => Chk (Nat.beq sz te.size && Nat.beq sz' sz) <| Need (m = xs.length ∧ 0 ≤ n ∧ n < ((hi - lo : Nat) : Int)) <| q (.rptr o m sz (lo + n.toNat) 0)
          | _ => False)
        | _ => False)
      | none => False)
    | .array len el =>
      (match ty G el with
      | some te =>
        (match x with
        | .ptr o k => Need (0 ≤ n ∧ n < (len : Int)) <| q (.ptr o (k + n.toNat * te.size))
        | .rptr o m sz i off =>
          (match S.heap[o]? with
          | some (.row _ sz' xs) => Chk (Nat.beq sz te.size && Nat.beq sz' sz && Nat.beq i 0 && Nat.beq off 0) <| Need (m = xs.length ∧ m = len ∧ 0 ≤ n ∧ n < (m : Int)) <| q (.rptr o m sz n.toNat 0)
          | _ => False)
        | _ => False)
      | none => False)
    | _ => False)
  | _, _ => False

def indexV (G : Tys) (T : TypeId) (x i : AV) (q : AV → Prop) : Prop :=
  match ty G T, i with
  | some ti, .v (.int _ n) =>
    (match ti.u, x with
    | .str, .v (.string s) => Need (0 ≤ n ∧ n.toNat < s.size) <| q (.v (.int .u8 ((byteAt s n.toNat).toNat : Int)))
    | _, _ => False)
  | _, _ => False

def boundV (x : Option AV) (d : Int) (q : Int → Prop) : Prop :=
  match x with
  | none => q d
  | some (.v (.int _ n)) => q n
  | _ => False

def sliceV (G : Tys) (S : St) (T : TypeId) (x : AV) (lo hi : Option AV) (q : AV → Prop) : Prop :=
  match ty G T with
  | some ti =>
    (match ti.u, x with
    | .str, .v (.string s) => boundV lo 0 fun l => boundV hi s.size fun h => Need (0 ≤ l ∧ l ≤ h ∧ h ≤ (s.size : Int)) <| q (.v (.string (s.extract l.toNat h.toNat)))
    | .slice el, .sl xs =>
      (match ty G el with
      | some te => Need (∀ cs ∈ xs, cs.length = te.size) <| boundV lo 0 fun l => boundV hi xs.length fun h => Need (0 ≤ l ∧ l ≤ h ∧ h ≤ (xs.length : Int)) <| q (.sl ((xs.take h.toNat).drop l.toNat))
      | none => False)
    | .slice el, .row o m =>
      (match ty G el, S.heap[o]? with
      | some te, some (.row _ sz xs) => Chk (Nat.beq sz te.size) <| Need (m = xs.length ∧ 0 < m) <| boundV lo 0 fun l => boundV hi m fun h => Need (0 ≤ l ∧ l ≤ h ∧ h ≤ (m : Int)) <| q (.vw o m sz l.toNat h.toNat)
      | _, _ => False)
    | .slice el, .vw o m sz a b =>
      (match ty G el, S.heap[o]? with
      | some te, some (.row _ sz' xs) => Chk (Nat.beq sz te.size && Nat.beq sz' sz) <| Need (m = xs.length) <| boundV lo 0 fun l => boundV hi ((b - a : Nat) : Int) fun h => Need (0 ≤ l ∧ l ≤ h ∧ a + h.toNat ≤ m) <| q (.vw o m sz (a + l.toNat) (a + h.toNat))
      | _, _ => False)
    | .array len el, .rptr o m sz i off =>
      (match ty G el, S.heap[o]? with
      | some te, some (.frz sz' xs) => Chk (Nat.beq sz te.size && Nat.beq sz' sz && Nat.beq i 0 && Nat.beq off 0) <| Need (m = xs.length ∧ m = len ∧ 0 < m) <| boundV lo 0 fun l => boundV hi len fun h => Need (0 ≤ l ∧ l ≤ h ∧ h ≤ (len : Int)) <| q (.sl ((xs.take h.toNat).drop l.toNat))
      | _, _ => False)
    | _, _ => False)
  | none => False

/-- 's[i:j:k]', its value of no use. -/
def slice3V (G : Tys) (S : St) (T : TypeId) (x : AV) (lo hi : Option AV) (mx : AV) (q : AV → Prop) : Prop :=
  match ty G T with
  | some ti =>
    (match ti.u, x, mx with
    | .slice el, .row o m, .v (.int _ k) =>
      (match ty G el, S.heap[o]? with
      | some te, some (.row _ sz xs) => Need (m = xs.length) <| boundV lo 0 fun l => boundV hi m fun h => Need (hi ≠ none ∧ 0 ≤ l ∧ l ≤ h ∧ h ≤ k ∧ k ≤ (m : Int)) <| q .dead
      | _, _ => False)
    | _, _, _ => False)
  | none => False

def lenV (G : Tys) (S : St) (T : TypeId) (x : AV) (q : AV → Prop) : Prop :=
  match ty G T with
  | some ti =>
    (match ti.u, x with
    | .str, .v (.string s) => q (.v (.int .i64 s.size))
    | .slice _, .sl xs => q (.v (.int .i64 xs.length))
    | .slice _, .row o n => (match S.heap[o]? with | some (.row _ _ xs) => Need (n = xs.length) <| q (.v (.int .i64 n)) | some (.frz _ xs) => Need (n = xs.length) <| q (.v (.int .i64 n)) | _ => False)
    | .slice _, .v (.slice none 0 0) => q (.v (.int .i64 0))
    | .slice _, .vw o n _ lo hi => (match S.heap[o]? with | some (.row _ _ xs) => Need (n = xs.length) <| q (.v (.int .i64 ((hi - lo : Nat) : Int))) | _ => False)
    | _, _ => False)
  | none => False

def minmaxV (mx : Bool) (x y : AV) (q : AV → Prop) : Prop :=
  match x, y with
  | .v (.int k a), .v (.int _ b) => q (.v (.int k (if mx then (if a < b then b else a) else (if b < a then b else a))))
  | _, _ => False

/-- Bytes, as whole numbers tell them. -/
def ofInts (l : List Int) : ByteArray := l.foldl (fun r n => r.push (UInt8.ofNat n.toNat)) ByteArray.empty
/-- A row of bytes. -/
structure RowInts (xs : List (List AV)) (k : List Int → Prop) : Prop where
  out : ∃ l : List Int, xs = l.map (fun n => [.v (.int .u8 n)]) ∧ k l
/-- A text out of a row of bytes. -/
def bytesV (S : St) (x : AV) (q : AV → Prop) : Prop :=
  match x with
  | .sl xs => RowInts xs fun l => q (.v (.string (ofInts l)))
  | .row o n =>
    (match S.heap[o]? with
    | some (.row _ sz xs) => Chk (Nat.beq sz 1) <| Need (n = xs.length) <| RowInts xs fun l => q (.v (.string (ofInts l)))
    | some (.frz sz xs) => Chk (Nat.beq sz 1) <| Need (n = xs.length) <| RowInts xs fun l => q (.v (.string (ofInts l)))
    | _ => False)
  | .vw o n sz lo hi =>
    (match S.heap[o]? with
    | some (.row _ sz' xs) => Chk (Nat.beq sz 1 && Nat.beq sz' 1) <| Need (n = xs.length) <| RowInts ((xs.take hi).drop lo) fun l => q (.v (.string (ofInts l)))
    | _ => False)
  | _ => False
def convV (G : Tys) (S : St) (src dst : TypeId) (x : AV) (q : AV → Prop) : Prop :=
  match ty G src, ty G dst with
  | some ts, some td =>
    (match td.u, x with
    | .int k, .v (.int _ n) => q (.v (.int k (k.wrap n)))
    | .str, .v (.string s) => q (.v (.string s))
    | .str, x =>
      (match ts.u with
      | .slice el => (match ty G el with | some te => (match te.u with | .int .u8 => bytesV S x q | _ => False) | none => False)
      | _ => False)
    | _, _ => False)
  | _, _ => False

def cellsB : AV → Option (List AV)
  | .agg cs => some cs
  | x => if x.one then some [x] else none

/-- Cells put into a row of cells. -/
def putCells (cs : List AV) (off : Nat) : List AV → List AV
  | [] => cs
  | x :: r => putCells (cs.set off x) (off + 1) r

def buildV (G : Tys) (S : St) (fs : List (Nat × TypeId)) (cs : List AV) : List (Nat × Operand) → Option (List AV)
  | [] => some cs
  | (i, x) :: r =>
    match fs[i]? with
    | none => none
    | some (off, ft) =>
      match ty G ft with
      | none => none
      | some tf =>
        match cellsB (S.ev x) with
        | none => none
        | some ys => match Nat.beq ys.length tf.size && Nat.ble (off + tf.size) cs.length with | true => buildV G S fs (putCells cs off ys) r | false => none

def builtinV (G : Tys) (S : St) (c : Callee) (args : List Operand) (ts : List TypeId) (q : AV → Prop) : Prop :=
  match c with
  | .builtin b =>
    (match b, args, ts with
    | .len, [x], [T] => lenV G S T (S.ev x) q
    | .min, [x, y], _ => minmaxV false (S.ev x) (S.ev y) q
    | .max, [x, y], _ => minmaxV true (S.ev x) (S.ev y) q
    | _, _, _ => False)
  | _ => False

def valOp (G : Tys) (S : St) (o : Op) (q : AV → Prop) : Prop :=
  match o with
  | .move x => q (S.ev x)
  | .assign x => q (S.ev x)
  | .pick c a b => pickV (S.ev c) (S.ev a) (S.ev b) q
  | .load T x => (match ty G T with | some ti => loadV S ti (S.ev x) q | none => False)
  | .binOp op T x y _ => binV G (isK x || isK y) op T (S.ev x) (S.ev y) q
  | .unOp op _ x => unV op (S.ev x) q
  | .convert s d x => convV G S s d (S.ev x) q
  | .fieldAddr T x f => fieldAddrV G S T (S.ev x) f q
  | .field T x f => fieldV G T (S.ev x) f q
  | .indexAddr T x i => indexAddrV G S T (S.ev x) (S.ev i) q
  | .index T x i => indexV G T (S.ev x) (S.ev i) q
  | .slice T x lo hi none => sliceV G S T (S.ev x) (lo.map S.ev) (hi.map S.ev) q
  | .slice T x lo hi (some mx) => slice3V G S T (S.ev x) (lo.map S.ev) (hi.map S.ev) (S.ev mx) q
  | .extract x i => (match S.ev x with | .tup vs => (match vs[i]? with | some r => q r | none => False) | _ => False)
  | .build T parts =>
    (match ty G T with
    | some ti =>
      (match ti.u with
      | .struct fs => (match buildV G S fs (ti.zero.map .v) parts.toList with | some cs => q (.agg cs) | none => False)
      | .array len el => (match ty G el with | some te => (match buildV G S ((List.range len).map fun i => (i * te.size, el)) (ti.zero.map .v) parts.toList with | some cs => q (.agg cs) | none => False) | none => False)
      | _ => False)
    | none => False)
  | .makeFunc f fs cs => q (.fn f (fs.toList.map S.ev) (cs.toList.map S.ev))
  | .makeInterface T x => (match ty G T with | some ti => Chk ti.conc <| q (.ifc T (S.ev x)) | none => False)
  | .call c => builtinV G S c.callee c.args.toList c.argTypes.toList q
  | _ => False

end Go.Ab
