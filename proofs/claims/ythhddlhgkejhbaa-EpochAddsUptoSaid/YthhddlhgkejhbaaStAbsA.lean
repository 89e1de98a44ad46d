/- The abstract states over which the walks of this claim run: what a register, a variable in memory and an owned row hold, told without addresses; and what it means that a world holds them. -/
import Derived.Calls
import Derived.Laws.World
import Derived.Laws.AppendOwn
import Derived.Maps.AppendAt
namespace Go.Ab
set_option linter.unusedVariables false

/-- What a register or a cell holds. -/
inductive AV where
  | v (x : Value)
  | sl (xs : List (List AV))
  | ptr (o off : Nat)
  | row (o n : Nat)
  | rptr (o n sz i off : Nat)
  | vw (o n sz lo hi : Nat)
  | eptr (cs : List AV)
  | fn (f : Fn) (first caps : List AV)
  | ifc (t : TypeId) (x : AV)
  | agg (cs : List AV)
  | tup (vs : List AV)
  | dead
  deriving Inhabited

/-- One cell? -/
def AV.one : AV → Bool
  | .v x => x.oneCell'
  | .agg _ => false
  | .tup _ => false
  | .dead => false
  | _ => true

/-- All cells are one each. -/
def ones (cs : List AV) : Bool := cs.all AV.one

/-- Where the objects lie. -/
structure Env where
  len : Nat
  blk : Nat → Nat
  rlen : Nat → Nat
  rowv : Nat → Value

def Env.nil : Env := ⟨0, fun _ => 0, fun _ => 0, fun _ => undef⟩

inductive Rep (w : World) (F : Nat → Prop) : Env → AV → Value → Prop
  | v {e x} : Rep w F e (.v x) x
  | sl {e xs A c} (sz : Nat) (a : Addr) (vals : Nat → Nat → Value)
      (hc : xs.length ≤ c)
      (hA : xs ≠ [] → A = some a ∧ F a.block ∧ a.spot = none)
      (hsz : ∀ (i : Nat) (cs : List AV), xs[i]? = some cs → cs.length = sz)
      (hone : ∀ (i : Nat) (cs : List AV), xs[i]? = some cs → ones cs = true)
      (hcell : ∀ (i : Nat) (cs : List AV) (j : Nat) (s : AV), xs[i]? = some cs → cs[j]? = some s → w.cell? ⟨a.block, a.off + i * sz + j, none⟩ = some (vals i j))
      (hrep : ∀ (i : Nat) (cs : List AV) (j : Nat) (s : AV), xs[i]? = some cs → cs[j]? = some s → Rep w F Env.nil s (vals i j)) : Rep w F e (.sl xs) (.slice A xs.length c)
  | ptr {e o off} (h : o < e.len) : Rep w F e (.ptr o off) (.pointer (some ⟨e.blk o, off, none⟩))
  | row {e o n A m c} (h : o < e.len) (hn : n = e.rlen o) (hv : e.rowv o = .slice A m c) : Rep w F e (.row o n) (.slice A m c)
  | rowold {e o n A m c} (h : o < e.len) (hn : n < e.rlen o) : Rep w F e (.row o n) (.slice A m c)
  | rptr {e o n sz i off b m c} (h : o < e.len) (hn : n = e.rlen o) (hv : e.rowv o = .slice (some ⟨b, 0, none⟩) m c) : Rep w F e (.rptr o n sz i off) (.pointer (some ⟨b, i * sz + off, none⟩))
  | rptrold {e o n sz i off a} (h : o < e.len) (hn : n < e.rlen o) : Rep w F e (.rptr o n sz i off) (.pointer a)
  | vw {e o n sz lo hi b m c off} (h : o < e.len) (hn : n = e.rlen o) (hv : e.rowv o = .slice (some ⟨b, 0, none⟩) m c) (hle : lo ≤ hi) (hhi : hi ≤ n) (h0 : 0 < n) (hoff : lo < c → off = lo * sz) : Rep w F e (.vw o n sz lo hi) (.slice (some ⟨b, off, none⟩) (hi - lo) (c - lo))
  | vwold {e o n sz lo hi A m c} (h : o < e.len) (hn : n < e.rlen o) : Rep w F e (.vw o n sz lo hi) (.slice A m c)
  | eptr {e cs} (a : Addr) (vals : Nat → Value) (hF : F a.block) (ha : a.spot = none)
      (hcell : ∀ (j : Nat) s, cs[j]? = some s → w.cell? ⟨a.block, a.off + j, none⟩ = some (vals j))
      (hrep : ∀ (j : Nat) s, cs[j]? = some s → Rep w F Env.nil s (vals j)) : Rep w F e (.eptr cs) (.pointer (some a))
  | fn {e f first caps fs cs} (h1 : fs.size = first.length) (h2 : cs.size = caps.length)
      (r1 : ∀ (j : Nat) s, first[j]? = some s → Rep w F e s (fs.getD j undef))
      (r2 : ∀ (j : Nat) s, caps[j]? = some s → Rep w F e s (cs.getD j undef)) : Rep w F e (.fn f first caps) (.func f fs cs)
  | ifc {e t s x} (h : Rep w F e s x) : Rep w F e (.ifc t s) (.iface t x)
  | agg {e cs vs} (h : vs.size = cs.length) (r : ∀ (j : Nat) s, cs[j]? = some s → Rep w F e s (vs.getD j undef)) : Rep w F e (.agg cs) (.agg vs)
  | tup {e cs vs} (h : vs.size = cs.length) (r : ∀ (j : Nat) s, cs[j]? = some s → Rep w F e s (vs.getD j undef)) : Rep w F e (.tup cs) (.tuple vs)
  | dead {e x} : Rep w F e .dead x

/-- A later world: what is frozen stands as it stood. -/
structure Later (w : World) (F : Nat → Prop) (w' : World) (F' : Nat → Prop) : Prop where
  sub : ∀ b, F b → F' b
  same : ∀ b, F b → w'.heap[b]? = w.heap[b]?

structure EnvLe (e e' : Env) : Prop where
  len : e.len ≤ e'.len
  blk : ∀ o, o < e.len → e'.blk o = e.blk o
  row : ∀ o, o < e.len → e.rlen o < e'.rlen o ∨ (e'.rlen o = e.rlen o ∧ e'.rowv o = e.rowv o)

theorem EnvLe.refl (e : Env) : EnvLe e e := ⟨Nat.le_refl _, fun _ _ => rfl, fun _ _ => .inr ⟨rfl, rfl⟩⟩
theorem EnvLe.trans {a b c : Env} (h : EnvLe a b) (k : EnvLe b c) : EnvLe a c := by
  refine ⟨Nat.le_trans h.len k.len, fun o ho => (k.blk o (Nat.lt_of_lt_of_le ho h.len)).trans (h.blk o ho), fun o ho => ?_⟩
  have h1 := h.row o ho
  have k1 := k.row o (Nat.lt_of_lt_of_le ho h.len)
  rcases h1 with h1 | ⟨h1, h2⟩ <;> rcases k1 with k1 | ⟨k1, k2⟩
  · exact .inl (by omega)
  · exact .inl (by omega)
  · exact .inl (by omega)
  · exact .inr ⟨by omega, k2.trans h2⟩
theorem EnvLe.nil (e : Env) : EnvLe Env.nil e := ⟨Nat.zero_le _, fun o h => absurd h (Nat.not_lt_zero _), fun o h => absurd h (Nat.not_lt_zero _)⟩
theorem Later.refl (w : World) (F : Nat → Prop) : Later w F w F := ⟨fun _ h => h, fun _ _ => rfl⟩
theorem Later.trans {w1 w2 w3 : World} {F1 F2 F3 : Nat → Prop} (h : Later w1 F1 w2 F2) (k : Later w2 F2 w3 F3) : Later w1 F1 w3 F3 :=
  ⟨fun b hb => k.sub b (h.sub b hb), fun b hb => (k.same b (h.sub b hb)).trans (h.same b hb)⟩

theorem Later.cell {w w' : World} {F F' : Nat → Prop} (h : Later w F w' F') {a : Addr} (ha : F a.block) : w'.cell? a = w.cell? a := by
  unfold World.cell?
  rw [h.same _ ha]

theorem Rep.mono {w w' : World} {F F' : Nat → Prop} (L : Later w F w' F') {e : Env} {s : AV} {x : Value} (h : Rep w F e s x) : ∀ {e' : Env}, EnvLe e e' → Rep w' F' e' s x := by
  induction h with
  | v => intro e' _; exact .v
  | @sl e xs A c sz a vals hc hA hsz hone hcell hrep ih =>
    intro e' _
    refine .sl sz a vals hc (fun h => ⟨(hA h).1, L.sub _ (hA h).2.1, (hA h).2.2⟩) hsz hone (fun i cs j s h1 h2 => ?_) (fun i cs j s h1 h2 => ih i cs j s h1 h2 (EnvLe.refl _))
    have hne : xs ≠ [] := by intro h; subst h; simp at h1
    rw [L.cell (a := ⟨a.block, a.off + i * sz + j, none⟩) (hA hne).2.1]
    exact hcell i cs j s h1 h2
  | @ptr e o off h =>
    intro e' k
    rw [← k.blk o h]
    exact .ptr (Nat.lt_of_lt_of_le h k.len)
  | @row e o n A m c h hn hv =>
    intro e' k
    rcases k.row o h with k1 | ⟨k1, k2⟩
    · exact .rowold (Nat.lt_of_lt_of_le h k.len) (by omega)
    · exact .row (Nat.lt_of_lt_of_le h k.len) (by omega) (k2.trans hv)
  | @rowold e o n A m c h hn =>
    intro e' k
    refine .rowold (Nat.lt_of_lt_of_le h k.len) ?_
    rcases k.row o h with k1 | ⟨k1, k2⟩ <;> omega
  | @rptr e o n sz i off b m c h hn hv =>
    intro e' k
    rcases k.row o h with k1 | ⟨k1, k2⟩
    · exact .rptrold (Nat.lt_of_lt_of_le h k.len) (by omega)
    · exact .rptr (Nat.lt_of_lt_of_le h k.len) (by omega) (k2.trans hv)
  | @rptrold e o n sz i off a h hn =>
    intro e' k
    refine .rptrold (Nat.lt_of_lt_of_le h k.len) ?_
    rcases k.row o h with k1 | ⟨k1, k2⟩ <;> omega
  | @vw e o n sz lo hi b m c off h hn hv hle hhi h0 hoff =>
    intro e' k
    rcases k.row o h with k1 | ⟨k1, k2⟩
    · exact .vwold (Nat.lt_of_lt_of_le h k.len) (by omega)
    · exact .vw (Nat.lt_of_lt_of_le h k.len) (by omega) (k2.trans hv) hle hhi h0 hoff
  | @vwold e o n sz lo hi A m c h hn =>
    intro e' k
    refine .vwold (Nat.lt_of_lt_of_le h k.len) ?_
    rcases k.row o h with k1 | ⟨k1, k2⟩ <;> omega
  | @eptr e cs a vals hF ha hcell hrep ih =>
    intro e' _
    refine .eptr a vals (L.sub _ hF) ha (fun j s h => ?_) (fun j s h => ih j s h (EnvLe.refl _))
    rw [L.cell (a := ⟨a.block, a.off + j, none⟩) hF]
    exact hcell j s h
  | fn h1 h2 r1 r2 ih1 ih2 => intro e' k; exact .fn h1 h2 (fun j s h => ih1 j s h k) (fun j s h => ih2 j s h k)
  | ifc h ih => intro e' k; exact .ifc (ih k)
  | agg h r ih => intro e' k; exact .agg h (fun j s hj => ih j s hj k)
  | tup h r ih => intro e' k; exact .tup h (fun j s hj => ih j s hj k)
  | dead => intro e' _; exact .dead

/-- What lies in memory and is ours. -/
inductive Ob where
  | var (T : TypeId) (cs : List AV)
  | row (el sz : Nat) (xs : List (List AV))
  | frz (sz : Nat) (xs : List (List AV))
  | gone
  deriving Inhabited

/-- A row that is ours: nil, or the head of a block. -/
def OwnRow (w : World) (F : Nat → Prop) (el sz : Nat) (xs : List (List AV)) (x : Value) : Prop :=
  (∀ (i : Nat) cs, xs[i]? = some cs → cs.length = sz ∧ ones cs = true) ∧
  ((xs = [] ∧ x = .slice none 0 0) ∨
   ∃ b c vs, x = .slice (some ⟨b, 0, none⟩) xs.length c ∧ ¬ F b ∧ w.heap[b]? = some (.cells vs el (0, 0)) ∧ vs.size = c * sz ∧ xs.length ≤ c ∧ c ≤ maxLen ∧
     ∀ (i : Nat) cs (j : Nat) s, xs[i]? = some cs → cs[j]? = some s → ∃ y, vs[i * sz + j]? = some y ∧ Rep w F Env.nil s y)

def ObRep (w : World) (F : Nat → Prop) (e : Env) (o : Nat) : Ob → Prop
  | .var T cs => ¬ F (e.blk o) ∧ ∃ vs, w.heap[e.blk o]? = some (.cells vs T (0, 0)) ∧ vs.size = cs.length ∧ ∀ (j : Nat) s, cs[j]? = some s → Rep w F e s (vs.getD j undef)
  | .row el sz xs => e.rlen o = xs.length ∧ OwnRow w F el sz xs (e.rowv o)
  | .frz sz xs => e.rlen o = xs.length ∧ (∀ (i : Nat) (cs : List AV), xs[i]? = some cs → cs.length = sz) ∧ Rep w F Env.nil (.sl xs) (e.rowv o)
  | .gone => True

/-- Block b is that of object o. -/
def Owner (e : Env) (H : List Ob) (o b : Nat) : Prop :=
  match H[o]? with
  | some (.var _ _) => e.blk o = b
  | some (.row _ _ _) => ∃ n c, e.rowv o = .slice (some ⟨b, 0, none⟩) n c
  | _ => False

structure HRep (w : World) (F : Nat → Prop) (e : Env) (H : List Ob) : Prop where
  len : e.len = H.length
  ob : ∀ o b, H[o]? = some b → ObRep w F e o b
  one : ∀ o o' b, Owner e H o b → Owner e H o' b → o = o'

/-- A state: the registers (n of them), and what is ours in memory. -/
structure St where
  n : Nat
  base : Nat
  regs : Nat → AV
  heap : List Ob

/-- The start: the world, the blocks that the caller handed on, the environment. -/
structure Ctx where
  w0 : World
  own0 : Nat → Prop
  e0 : Env
  F0 : Nat → Prop

/-- What has changed since the start: blocks that were handed on, alone. -/
structure Mod (C : Ctx) (w : World) : Prop where
  os : w.os = C.w0.os
  tape : w.tape = C.w0.tape
  output : w.output = C.w0.output
  size : C.w0.heap.size ≤ w.heap.size
  block : ∀ b, b < C.w0.heap.size → ¬ C.own0 b → w.heap[b]? = C.w0.heap[b]?

structure Mem (C : Ctx) (H : List Ob) (w : World) (F : Nat → Prop) (e : Env) : Prop where
  heap : HRep w F e H
  mod : Mod C w
  ours : ∀ o b, Owner e H o b → C.w0.heap.size ≤ b ∨ C.own0 b
  sub : ∀ b, C.F0 b → F b
  bound : ∀ b, F b → b < w.heap.size
  fresh : ∀ b, F b → C.F0 b ∨ C.w0.heap.size ≤ b ∨ C.own0 b
  env : EnvLe C.e0 e

structure Sat (C : Ctx) (S : St) (a : Act) (w : World) (F : Nat → Prop) (e : Env) : Prop where
  defers : a.defers = []
  size : a.tmps.size = S.n
  base : C.e0.len = S.base
  regs : ∀ t, Rep w F e (S.regs t) (a.tmps.getD t undef)
  mem : Mem C S.heap w F e

end Go.Ab
