/- The abstract states over which the walks of this claim run: what a register, a variable in memory and an owned row hold, told without addresses; and what it means that a world holds them. -/
import Derived.Calls
import Derived.Laws.World
import Derived.Laws.AppendOwn
import Derived.Maps.AppendAt
import Derived.WalkKit
import Derived.Laws.StructEq
import Derived.Laws.Build
import Derived.Laws.Rows
namespace Go.Ab
set_option linter.unusedVariables false

/-- What a register or a cell holds. -/
inductive AV where
  | v (x : Value)
  | sl (xs : List (List AV))
  | ptr (o off : Nat)
  | row (o n : Nat)
  | rptr (o n sz i off : Nat)
  | vw (o n sz lo hi : Nat)
  | eptr (cs : List AV)
  | fn (f : Fn) (first caps : List AV)
  | ifc (t : TypeId) (x : AV)
  | agg (cs : List AV)
  | tup (vs : List AV)
  | mp (o : Nat)
  | dead
  deriving Inhabited

/-- One cell? -/
def AV.one : AV → Bool
  | .v x => x.oneCell'
  | .agg _ => false
  | .tup _ => false
  | .dead => false
  | _ => true

/-- All cells are one each. -/
def ones (cs : List AV) : Bool := cs.all AV.one

/-- Where the objects lie. -/
structure Env where
  len : Nat
  blk : Nat → Nat
  rlen : Nat → Nat
  rowv : Nat → Value

def Env.nil : Env := ⟨0, fun _ => 0, fun _ => 0, fun _ => undef⟩

inductive Rep (w : World) (F : Nat → Prop) : Env → AV → Value → Prop
  | v {e x} : Rep w F e (.v x) x
  | sl {e xs A c} (sz : Nat) (a : Addr) (vals : Nat → Nat → Value)
      (hc : xs.length ≤ c)
      (hA : xs ≠ [] → A = some a ∧ F a.block ∧ a.spot = none)
      (hsz : ∀ (i : Nat) (cs : List AV), xs[i]? = some cs → cs.length = sz)
      (hone : ∀ (i : Nat) (cs : List AV), xs[i]? = some cs → ones cs = true)
      (hcell : ∀ (i : Nat) (cs : List AV) (j : Nat) (s : AV), xs[i]? = some cs → cs[j]? = some s → w.cell? ⟨a.block, a.off + i * sz + j, none⟩ = some (vals i j))
      (hrep : ∀ (i : Nat) (cs : List AV) (j : Nat) (s : AV), xs[i]? = some cs → cs[j]? = some s → Rep w F Env.nil s (vals i j)) : Rep w F e (.sl xs) (.slice A xs.length c)
  | ptr {e o off} (h : o < e.len) : Rep w F e (.ptr o off) (.pointer (some ⟨e.blk o, off, none⟩))
  | row {e o n A m c} (h : o < e.len) (hn : n = e.rlen o) (hv : e.rowv o = .slice A m c) : Rep w F e (.row o n) (.slice A m c)
  | rowold {e o n A m c} (h : o < e.len) (hn : n < e.rlen o) : Rep w F e (.row o n) (.slice A m c)
  | rptr {e o n sz i off b m c} (h : o < e.len) (hn : n = e.rlen o) (hv : e.rowv o = .slice (some ⟨b, 0, none⟩) m c) : Rep w F e (.rptr o n sz i off) (.pointer (some ⟨b, i * sz + off, none⟩))
  | rptrold {e o n sz i off a} (h : o < e.len) (hn : n < e.rlen o) : Rep w F e (.rptr o n sz i off) (.pointer a)
  | vw {e o n sz lo hi b m c off} (h : o < e.len) (hn : n = e.rlen o) (hv : e.rowv o = .slice (some ⟨b, 0, none⟩) m c) (hle : lo ≤ hi) (hhi : hi ≤ n) (h0 : 0 < n) (hoff : lo < c → off = lo * sz) : Rep w F e (.vw o n sz lo hi) (.slice (some ⟨b, off, none⟩) (hi - lo) (c - lo))
  | vwold {e o n sz lo hi A m c} (h : o < e.len) (hn : n < e.rlen o) : Rep w F e (.vw o n sz lo hi) (.slice A m c)
  | eptr {e cs} (a : Addr) (vals : Nat → Value) (hF : F a.block) (ha : a.spot = none)
      (hcell : ∀ (j : Nat) s, cs[j]? = some s → w.cell? ⟨a.block, a.off + j, none⟩ = some (vals j))
      (hrep : ∀ (j : Nat) s, cs[j]? = some s → Rep w F Env.nil s (vals j)) : Rep w F e (.eptr cs) (.pointer (some a))
  | fn {e f first caps fs cs} (h1 : fs.size = first.length) (h2 : cs.size = caps.length)
      (r1 : ∀ (j : Nat) s, first[j]? = some s → Rep w F e s (fs.getD j undef))
      (r2 : ∀ (j : Nat) s, caps[j]? = some s → Rep w F e s (cs.getD j undef)) : Rep w F e (.fn f first caps) (.func f fs cs)
  | ifc {e t s x} (h : Rep w F e s x) : Rep w F e (.ifc t s) (.iface t x)
  | agg {e cs vs} (h : vs.size = cs.length) (r : ∀ (j : Nat) s, cs[j]? = some s → Rep w F e s (vs.getD j undef)) : Rep w F e (.agg cs) (.agg vs)
  | tup {e cs vs} (h : vs.size = cs.length) (r : ∀ (j : Nat) s, cs[j]? = some s → Rep w F e s (vs.getD j undef)) : Rep w F e (.tup cs) (.tuple vs)
  | mp {e o} (h : o < e.len) : Rep w F e (.mp o) (.map (some (e.blk o)))
  | dead {e x} : Rep w F e .dead x

/-- A later world: what is frozen stands as it stood. -/
structure Later (w : World) (F : Nat → Prop) (w' : World) (F' : Nat → Prop) : Prop where
  sub : ∀ b, F b → F' b
  same : ∀ b, F b → w'.heap[b]? = w.heap[b]?

structure EnvLe (e e' : Env) : Prop where
  len : e.len ≤ e'.len
  blk : ∀ o, o < e.len → e'.blk o = e.blk o
  row : ∀ o, o < e.len → e.rlen o < e'.rlen o ∨ (e'.rlen o = e.rlen o ∧ e'.rowv o = e.rowv o)

theorem EnvLe.refl (e : Env) : EnvLe e e := ⟨Nat.le_refl _, fun _ _ => rfl, fun _ _ => .inr ⟨rfl, rfl⟩⟩
theorem EnvLe.trans {a b c : Env} (h : EnvLe a b) (k : EnvLe b c) : EnvLe a c := by
  refine ⟨Nat.le_trans h.len k.len, fun o ho => (k.blk o (Nat.lt_of_lt_of_le ho h.len)).trans (h.blk o ho), fun o ho => ?_⟩
  have h1 := h.row o ho
  have k1 := k.row o (Nat.lt_of_lt_of_le ho h.len)
  rcases h1 with h1 | ⟨h1, h2⟩ <;> rcases k1 with k1 | ⟨k1, k2⟩
  · exact .inl (by omega)
  · exact .inl (by omega)
  · exact .inl (by omega)
  · exact .inr ⟨by omega, k2.trans h2⟩
theorem EnvLe.nil (e : Env) : EnvLe Env.nil e := ⟨Nat.zero_le _, fun o h => absurd h (Nat.not_lt_zero _), fun o h => absurd h (Nat.not_lt_zero _)⟩
theorem Later.refl (w : World) (F : Nat → Prop) : Later w F w F := ⟨fun _ h => h, fun _ _ => rfl⟩
theorem Later.trans {w1 w2 w3 : World} {F1 F2 F3 : Nat → Prop} (h : Later w1 F1 w2 F2) (k : Later w2 F2 w3 F3) : Later w1 F1 w3 F3 :=
  ⟨fun b hb => k.sub b (h.sub b hb), fun b hb => (k.same b (h.sub b hb)).trans (h.same b hb)⟩

theorem Later.cell {w w' : World} {F F' : Nat → Prop} (h : Later w F w' F') {a : Addr} (ha : F a.block) : w'.cell? a = w.cell? a := by
  unfold World.cell?
  rw [h.same _ ha]

theorem Rep.mono {w w' : World} {F F' : Nat → Prop} (L : Later w F w' F') {e : Env} {s : AV} {x : Value} (h : Rep w F e s x) : ∀ {e' : Env}, EnvLe e e' → Rep w' F' e' s x := by
  induction h with
  | v => intro e' _; exact .v
  | @sl e xs A c sz a vals hc hA hsz hone hcell hrep ih =>
    intro e' _
    refine .sl sz a vals hc (fun h => ⟨(hA h).1, L.sub _ (hA h).2.1, (hA h).2.2⟩) hsz hone (fun i cs j s h1 h2 => ?_) (fun i cs j s h1 h2 => ih i cs j s h1 h2 (EnvLe.refl _))
    have hne : xs ≠ [] := by intro h; subst h; simp at h1
    rw [L.cell (a := ⟨a.block, a.off + i * sz + j, none⟩) (hA hne).2.1]
    exact hcell i cs j s h1 h2
  | @ptr e o off h =>
    intro e' k
    rw [← k.blk o h]
    exact .ptr (Nat.lt_of_lt_of_le h k.len)
  | @row e o n A m c h hn hv =>
    intro e' k
    rcases k.row o h with k1 | ⟨k1, k2⟩
    · exact .rowold (Nat.lt_of_lt_of_le h k.len) (by omega)
    · exact .row (Nat.lt_of_lt_of_le h k.len) (by omega) (k2.trans hv)
  | @rowold e o n A m c h hn =>
    intro e' k
    refine .rowold (Nat.lt_of_lt_of_le h k.len) ?_
    rcases k.row o h with k1 | ⟨k1, k2⟩ <;> omega
  | @rptr e o n sz i off b m c h hn hv =>
    intro e' k
    rcases k.row o h with k1 | ⟨k1, k2⟩
    · exact .rptrold (Nat.lt_of_lt_of_le h k.len) (by omega)
    · exact .rptr (Nat.lt_of_lt_of_le h k.len) (by omega) (k2.trans hv)
  | @rptrold e o n sz i off a h hn =>
    intro e' k
    refine .rptrold (Nat.lt_of_lt_of_le h k.len) ?_
    rcases k.row o h with k1 | ⟨k1, k2⟩ <;> omega
  | @vw e o n sz lo hi b m c off h hn hv hle hhi h0 hoff =>
    intro e' k
    rcases k.row o h with k1 | ⟨k1, k2⟩
    · exact .vwold (Nat.lt_of_lt_of_le h k.len) (by omega)
    · exact .vw (Nat.lt_of_lt_of_le h k.len) (by omega) (k2.trans hv) hle hhi h0 hoff
  | @vwold e o n sz lo hi A m c h hn =>
    intro e' k
    refine .vwold (Nat.lt_of_lt_of_le h k.len) ?_
    rcases k.row o h with k1 | ⟨k1, k2⟩ <;> omega
  | @eptr e cs a vals hF ha hcell hrep ih =>
    intro e' _
    refine .eptr a vals (L.sub _ hF) ha (fun j s h => ?_) (fun j s h => ih j s h (EnvLe.refl _))
    rw [L.cell (a := ⟨a.block, a.off + j, none⟩) hF]
    exact hcell j s h
  | fn h1 h2 r1 r2 ih1 ih2 => intro e' k; exact .fn h1 h2 (fun j s h => ih1 j s h k) (fun j s h => ih2 j s h k)
  | ifc h ih => intro e' k; exact .ifc (ih k)
  | agg h r ih => intro e' k; exact .agg h (fun j s hj => ih j s hj k)
  | tup h r ih => intro e' k; exact .tup h (fun j s hj => ih j s hj k)
  | @mp e o h =>
    intro e' k
    rw [← k.blk o h]
    exact .mp (Nat.lt_of_lt_of_le h k.len)
  | dead => intro e' _; exact .dead

/-- What lies in memory and is ours. -/
inductive Ob where
  | var (T : TypeId) (cs : List AV)
  | row (el sz : Nat) (xs : List (List AV))
  | frz (sz : Nat) (xs : List (List AV))
  | ext (R : Obj → Prop)
  | gone
  deriving Inhabited

/-- A row that is ours: nil, or the head of a block. -/
def OwnRow (w : World) (F : Nat → Prop) (el sz : Nat) (xs : List (List AV)) (x : Value) : Prop :=
  (∀ (i : Nat) cs, xs[i]? = some cs → cs.length = sz ∧ ones cs = true) ∧
  ((xs = [] ∧ x = .slice none 0 0) ∨
   ∃ b c vs, x = .slice (some ⟨b, 0, none⟩) xs.length c ∧ ¬ F b ∧ w.heap[b]? = some (.cells vs el (0, 0)) ∧ vs.size = c * sz ∧ xs.length ≤ c ∧ c ≤ maxLen ∧
     ∀ (i : Nat) cs (j : Nat) s, xs[i]? = some cs → cs[j]? = some s → ∃ y, vs[i * sz + j]? = some y ∧ Rep w F Env.nil s y)

def ObRep (w : World) (F : Nat → Prop) (e : Env) (o : Nat) : Ob → Prop
  | .var T cs => ¬ F (e.blk o) ∧ ∃ vs, w.heap[e.blk o]? = some (.cells vs T (0, 0)) ∧ vs.size = cs.length ∧ ∀ (j : Nat) s, cs[j]? = some s → Rep w F e s (vs.getD j undef)
  | .row el sz xs => e.rlen o = xs.length ∧ OwnRow w F el sz xs (e.rowv o)
  | .frz sz xs => e.rlen o = xs.length ∧ (∀ (i : Nat) (cs : List AV), xs[i]? = some cs → cs.length = sz) ∧ Rep w F Env.nil (.sl xs) (e.rowv o)
  | .ext R => ¬ F (e.blk o) ∧ ∃ ob, w.heap[e.blk o]? = some ob ∧ R ob
  | .gone => True

/-- Block b is that of object o. -/
def Owner (e : Env) (H : List Ob) (o b : Nat) : Prop :=
  match H[o]? with
  | some (.var _ _) => e.blk o = b
  | some (.row _ _ _) => ∃ n c, e.rowv o = .slice (some ⟨b, 0, none⟩) n c
  | some (.ext _) => e.blk o = b
  | _ => False

structure HRep (w : World) (F : Nat → Prop) (e : Env) (H : List Ob) : Prop where
  len : e.len = H.length
  ob : ∀ o b, H[o]? = some b → ObRep w F e o b
  one : ∀ o o' b, Owner e H o b → Owner e H o' b → o = o'

/-- A state: the registers (n of them), and what is ours in memory. -/
structure St where
  n : Nat
  base : Nat
  regs : Nat → AV
  heap : List Ob

/-- What holds of the package's variables, and which blocks are none of theirs (a seat may have words of its own: merge.py). -/
def GW (w : World) : Prop := w.cell? ⟨0, 0, none⟩ = some (.iface 243 (.agg #[.pointer (some ⟨1, 107, none⟩)]))
def GN (b : Nat) : Prop := b ≠ 0
/-- The start: the world, the blocks that the caller handed on, the environment. -/
structure Ctx where
  w0 : World
  own0 : Nat → Prop
  e0 : Env
  F0 : Nat → Prop

/-- What has changed since the start: blocks that were handed on, alone. -/
structure Mod (C : Ctx) (w : World) : Prop where
  os : w.os = C.w0.os
  tape : w.tape = C.w0.tape
  output : w.output = C.w0.output
  size : C.w0.heap.size ≤ w.heap.size
  block : ∀ b, b < C.w0.heap.size → ¬ C.own0 b → w.heap[b]? = C.w0.heap[b]?

/-- What the start knows of the package's variables. -/
structure GC (C : Ctx) : Prop where
  gw : GW C.w0
  gn : ∀ b, C.own0 b → GN b
theorem cell_pos {w : World} {v : Value} (h : w.cell? ⟨0, 0, none⟩ = some v) : 0 < w.heap.size := by
  rcases Nat.eq_zero_or_pos w.heap.size with h0 | h0
  · simp [World.cell?, h0] at h
  · exact h0
theorem gw_same {w w' : World} (h : GW w) (hs : ∀ b, b < w.heap.size → ¬ GN b → w'.heap[b]? = w.heap[b]?) : GW w' := by
  first
    | exact trivial
    | (have hl : 0 < w.heap.size := cell_pos h
       have h1 : w'.cell? ⟨0, 0, none⟩ = w.cell? ⟨0, 0, none⟩ := World.cell?_of_block (hs 0 hl (by simp [GN]))
       unfold GW at *
       rw [h1]; exact h)
theorem gn_new {w : World} (h : GW w) {b : Nat} (hb : w.heap.size ≤ b) : GN b := by
  first
    | exact trivial
    | (have hl : 0 < w.heap.size := cell_pos h
       unfold GN
       omega)
theorem GC.at {C : Ctx} {w : World} (h : GC C) (m : Mod C w) : GW w := gw_same h.gw fun b hb hn => m.block b hb fun ho => hn (h.gn b ho)
structure Mem (C : Ctx) (H : List Ob) (w : World) (F : Nat → Prop) (e : Env) : Prop where
  heap : HRep w F e H
  mod : Mod C w
  ours : ∀ o b, Owner e H o b → C.w0.heap.size ≤ b ∨ C.own0 b
  sub : ∀ b, C.F0 b → F b
  bound : ∀ b, F b → b < w.heap.size
  fresh : ∀ b, F b → C.F0 b ∨ C.w0.heap.size ≤ b ∨ C.own0 b
  env : EnvLe C.e0 e
  g : GC C
theorem Mem.gw {C : Ctx} {H : List Ob} {w : World} {F : Nat → Prop} {e : Env} (h : Mem C H w F e) : GW w := h.g.at h.mod
theorem Mem.gn {C : Ctx} {H : List Ob} {w : World} {F : Nat → Prop} {e : Env} (h : Mem C H w F e) {o b : Nat} (ho : Owner e H o b) : GN b := (h.ours o b ho).elim (gn_new h.g.gw) (h.g.gn b)

structure Sat (C : Ctx) (S : St) (a : Act) (w : World) (F : Nat → Prop) (e : Env) : Prop where
  defers : a.defers = []
  size : a.tmps.size = S.n
  base : C.e0.len = S.base
  regs : ∀ t, Rep w F e (S.regs t) (a.tmps.getD t undef)
  mem : Mem C S.heap w F e

end Go.Ab

/- The operations that only compute or read: what each makes of abstract registers, and that the machine does just that, in the world itself and in every later one. -/
namespace Go.Ab
set_option linter.unusedVariables false
set_option linter.unusedSimpArgs false

/-! ### Types -/
inductive U where
  | int (k : IntKind) | bool | str | ptr | slice (e : TypeId) | array (n : Nat) (e : TypeId) | struct (fs : List (Nat × TypeId)) | map (k e : TypeId) | func | iface | other
  deriving Inhabited

structure TI where
  u : U
  size : Nat
  bytes : Nat
  zero : List Value
  plain : Bool
  conc : Bool
  deriving Inhabited

def U.Fits : U → TypeDesc → Prop
  | .int k, d => d = .int k
  | .bool, d => d = .bool
  | .str, d => d = .string
  | .ptr, d => ∃ e, d = .pointer e
  | .slice e, d => d = .slice e
  | .array n e, d => d = .array n e
  | .struct fs, d => ∃ gs : Array Field, d = .struct gs ∧ fs = gs.toList.map (fun g => (g.offset, g.type)) ∧ ∀ g ∈ gs.toList, g.name ≠ "_"
  | .map k e, d => d = .map k e
  | .func, d => ∃ a b c, d = .func a b c
  | .iface, d => ∃ ms, d = .interface ms
  | .other, _ => True

def U.agg : U → Bool
  | .array _ _ => true
  | .struct _ => true
  | _ => false

structure TGood (P : Program) (t : TypeId) (ti : TI) : Prop where
  und : ∃ d, P.underlying t = some d ∧ ti.u.Fits d
  info : ∃ i, P.info? t = some i ∧ i.size = ti.size ∧ i.bytes = ti.bytes ∧ ∃ z, i.zero = some z ∧ z.cells.toList = ti.zero
  plain : ti.plain = true → P.stoodInHeld t = false ∧ P.eqGuardType P.depth t = false
  conc : ti.conc = true → P.concrete t = true
  zlen : ti.zero.length = ti.size
  kids : ∀ fs, ti.u = .struct fs → ∀ f ∈ fs, ∃ i, P.info? f.2 = some i

abbrev Tys := List (Option TI)
def TyOk (P : Program) (G : Tys) : Prop := ∀ (t : Nat) ti, G[t]? = some (some ti) → TGood P t ti
def ty (G : Tys) (t : TypeId) : Option TI := (G[t]?).getD none
theorem TyOk.get {P : Program} {G : Tys} (h : TyOk P G) {t : TypeId} {ti : TI} (e : ty G t = some ti) : TGood P t ti := by
  refine h t ti ?_
  unfold ty at e
  cases hg : G[t]? with
  | none => rw [hg] at e; cases e
  | some x => rw [hg] at e; simp at e; rw [e]

theorem TGood.agg {P : Program} {t : TypeId} {ti : TI} (h : TGood P t ti) (ho : ti.u.agg = true) (w : World) : (isAgg t).run P w = .ok true w := by
  obtain ⟨d, hd, hf⟩ := h.und
  unfold isAgg
  rw [Sem.run_bind, run_underlying hd w]
  cases hu : ti.u <;> rw [hu] at ho hf <;> simp only [U.agg, Bool.false_eq_true] at ho <;> simp only [U.Fits] at hf
  · subst hf; rfl
  · obtain ⟨gs, rfl, _⟩ := hf; rfl

def U.known : U → Bool
  | .other => false
  | _ => true

theorem TGood.notagg {P : Program} {t : TypeId} {ti : TI} (h : TGood P t ti) (ho : ti.u.agg = false) (hk : ti.u.known = true) (w : World) : (isAgg t).run P w = .ok false w := by
  obtain ⟨d, hd, hf⟩ := h.und
  unfold isAgg
  rw [Sem.run_bind, run_underlying hd w]
  cases hu : ti.u <;> rw [hu] at ho hf hk <;> simp only [U.agg, U.known, Bool.true_eq_false, Bool.false_eq_true] at ho hk <;> simp only [U.Fits] at hf
  all_goals first | (subst hf; rfl) | (obtain ⟨_, rfl⟩ := hf; rfl) | (obtain ⟨_, _, _, rfl⟩ := hf; rfl)

theorem TGood.sizeOf {P : Program} {t : TypeId} {ti : TI} (h : TGood P t ti) (w : World) : (sizeOf t).run P w = .ok ti.size w := by
  obtain ⟨i, hi, hs, _⟩ := h.info
  simp [Go.sizeOf, typeInfo, hi, hs]

theorem TGood.zeroValue {P : Program} {t : TypeId} {ti : TI} (h : TGood P t ti) (w : World) : ∃ z, (zeroValue t).run P w = .ok z w ∧ z.cells = ti.zero.toArray := by
  obtain ⟨i, hi, hs, _, z, hz, hzz⟩ := h.info
  exact ⟨z, by simp [Go.zeroValue, typeInfo, hi, hz], by rw [← hzz]⟩

/-! ### Registers -/
def ofConst : Value → AV
  | .agg cs => .agg (cs.toList.map .v)
  | .func f fs cs => if fs.size = 0 ∧ cs.size = 0 then .fn f [] [] else .v (.func f fs cs)
  | x => .v x

def St.ev (S : St) : Operand → AV
  | .tmp t => S.regs t
  | .const x => ofConst x
  | .global _ => .dead
  | .func f => .fn (.func f) [] []

theorem rep_ofConst {w : World} {F : Nat → Prop} {e : Env} (x : Value) : Rep w F e (ofConst x) x := by
  unfold ofConst
  split
  · rename_i cs
    refine .agg (by simp) (fun j s h => ?_)
    rw [List.getElem?_map] at h
    cases hj : cs.toList[j]? with
    | none => rw [hj] at h; cases h
    | some y =>
      rw [hj] at h
      simp at h
      subst h
      have hy : cs[j]? = some y := by simpa using hj
      have : cs.getD j undef = y := by simp [Array.getD_eq_getD_getElem?, hy]
      rw [this]
      exact .v
  · split
    · rename_i h
      exact .fn h.1 h.2 (fun j s h => by simp at h) (fun j s h => by simp at h)
    · exact .v
  · exact .v

/-- What a walk knows at an operation. -/
structure Here (S : St) (a : Act) (w : World) (F : Nat → Prop) (e : Env) : Prop where
  regs : ∀ t, Rep w F e (S.regs t) (a.tmps.getD t undef)
  heap : HRep w F e S.heap
  bound : ∀ b, F b → b < w.heap.size

theorem Here.ev {S : St} {a : Act} {w : World} {F : Nat → Prop} {e : Env} (h : Here S a w F e) (x : Operand) : Rep w F e (S.ev x) (a.eval x) := by
  cases x with
  | tmp t => exact h.regs t
  | const v => exact rep_ofConst v
  | global g => exact .dead
  | func f => exact .fn rfl rfl (fun j s h => by simp at h) (fun j s h => by simp at h)

/-- The old blocks stand as they stood. -/
def Agree (X : Nat → Prop) (w w' : World) : Prop := ∀ b, b < w.heap.size → ¬ X b → w'.heap[b]? = w.heap[b]?
theorem Agree.refl {X : Nat → Prop} (w : World) : Agree X w w := fun _ _ _ => rfl
theorem Agree.cell {X : Nat → Prop} {w w' : World} (h : Agree X w w') {a : Addr} (hx : ¬ X a.block) {v : Value} (hc : w.cell? a = some v) : w'.cell? a = some v := by
  have hb := World.block_lt_of_cell? w a hc
  unfold World.cell? at *
  rw [h _ hb hx]; exact hc

/-- An operation's one value, here and later. -/
def Yields1 (X : Nat → Prop) (P : Program) (o : Oper) (a : Act) (w : World) (x : Value) : Prop := ∀ w', Agree X w w' → (execOp a.eval o).run P w' = .ok (.value x) w'

/-- The blocks of X may change: none is frozen, none a variable's; and what is read of a row of ours is not in question. -/
structure XOk (X F : Nat → Prop) (e : Env) (S : St) (op : Op) : Prop where
  frz : ∀ T A cs, op = .load T A → S.ev A = .eptr cs → ∀ b, F b → ¬ X b
  var : ∀ T A o off, op = .load T A → S.ev A = .ptr o off → ¬ X (e.blk o)
  row : ∀ T A o n sz i off, op = .load T A → S.ev A = .rptr o n sz i off → ∀ b, ¬ X b
  cnv : ∀ s d A, op = .convert s d A → (∃ x, S.ev A = .v x) ∨ ∀ b, ¬ X b
theorem XOk.none {F : Nat → Prop} {e : Env} {S : St} {op : Op} : XOk (fun _ => False) F e S op := ⟨fun _ _ _ _ _ _ _ h => h, fun _ _ _ _ _ _ h => h, fun _ _ _ _ _ _ _ _ _ _ h => h, fun _ _ _ _ => .inr fun _ h => h⟩

/-! ### Cells of a variable, read -/
def readAV (ti : TI) (cs : List AV) (off : Nat) : Option AV :=
  match ti.u.known with
  | true =>
    (match ti.u.agg with
    | true => (match Nat.ble (off + ti.size) cs.length with | true => some (.agg ((cs.drop off).take ti.size)) | false => none)
    | false => cs[off]?)
  | false => none

theorem addr_add {a : Addr} (ha : a.spot = none) (n : Nat) : a.add n = ⟨a.block, a.off + n, none⟩ := by
  unfold Addr.add
  split
  · rename_i h; subst h; cases a; simp_all
  · rfl

theorem read_sound {P : Program} {w : World} {F : Nat → Prop} {e : Env} {t : TypeId} {ti : TI} (g : TGood P t ti) {cs : List AV} {off : Nat} {r : AV} (hr : readAV ti cs off = some r)
    (b k : Nat) (vals : Nat → Value) (hcell : ∀ (j : Nat) s, cs[j]? = some s → w.cell? ⟨b, k + j, none⟩ = some (vals j)) (hrep : ∀ (j : Nat) s, cs[j]? = some s → Rep w F e s (vals j)) {X : Nat → Prop} (hX : ¬ X b) :
    ∃ x, Rep w F e r x ∧ ∀ w', Agree X w w' → (loadVar t ⟨b, k + off, none⟩).run P w' = .ok x w' := by
  unfold readAV at hr
  split at hr
  case h_2 => cases hr
  rename_i hk
  split at hr
  · rename_i ha
    split at hr
    case h_2 => cases hr
    rename_i hle
    replace hle := Nat.le_of_ble_eq_true hle
    injection hr with hr
    subst hr
    refine ⟨.agg ((List.range ti.size).map fun j => vals (off + j)).toArray, .agg (by simp; omega) (fun j s hj => ?_), fun w' hw => ?_⟩
    · have hlt : j < ti.size := by
        rcases Nat.lt_or_ge j ti.size with h | h
        · exact h
        · rw [List.getElem?_eq_none (by simp; omega)] at hj; cases hj
      have hj' : cs[off + j]? = some s := by
        rw [List.getElem?_take_of_lt hlt, List.getElem?_drop] at hj
        exact hj
      have hx : (List.map (fun j => vals (off + j)) (List.range ti.size)).toArray.getD j undef = vals (off + j) := by
        simp [Array.getD_eq_getD_getElem?, hlt]
      rw [hx]
      exact hrep _ _ hj'
    · unfold loadVar
      rw [Sem.run_bind, g.agg ha w']
      simp only [Result.andThen_ok, if_true, Sem.run_bind, g.sizeOf w']
      rw [run_loadCells w' ⟨b, k + off, none⟩ ti.size (fun j => vals (off + j)) (fun j hj => ?_)]
      · rfl
      · rw [addr_add rfl]
        have : off + j < cs.length := by omega
        have := hcell (off + j) _ (List.getElem?_eq_getElem this)
        rw [← Nat.add_assoc] at this
        exact hw.cell hX this
  · rename_i ha
    refine ⟨vals off, hrep _ _ hr, fun w' hw => ?_⟩
    unfold loadVar
    rw [Sem.run_bind, g.notagg (by simpa using ha) hk w']
    have := hw.cell hX (hcell off r hr)
    simp [this]

end Go.Ab

/- The table of value operations over abstract registers. -/
namespace Go.Ab
set_option linter.unusedVariables false

/-- Something that is to be shown, and what follows. -/
structure Need (p : Prop) (k : Prop) : Prop where
  h : p
  k : k
/-- What is reckoned, under whatever name. -/
structure Re {α : Type} (x : α) (k : α → Prop) : Prop where
  out : ∃ z, z = x ∧ k z
theorem Re_eq {α : Type} (x : α) (k : α → Prop) : Re x k = k x := propext ⟨fun h => let ⟨z, e, h⟩ := h.out; e ▸ h, fun h => ⟨⟨x, rfl, h⟩⟩⟩
/-- There is such an element. -/
structure Elem (xs : List (List AV)) (i : Nat) (k : List AV → Prop) : Prop where
  out : ∃ cs, xs[i]? = some cs ∧ k cs
/-- What is reckoned out at once. -/
def Chk (b : Bool) (k : Prop) : Prop :=
  match b with
  | true => k
  | false => False
theorem Chk.elim {b : Bool} {k : Prop} (h : Chk b k) : b = true ∧ k := by
  cases b
  · exact False.elim h
  · exact ⟨rfl, h⟩
theorem Chk.eqn {m n : Nat} {k : Prop} (h : Chk (Nat.beq m n) k) : m = n ∧ k := ⟨Nat.eq_of_beq_eq_true h.elim.1, h.elim.2⟩
theorem Chk.len {m n : Nat} {k : Prop} (h : Chk (Nat.ble m n) k) : m ≤ n ∧ k := ⟨Nat.le_of_ble_eq_true h.elim.1, h.elim.2⟩
def kEq : IntKind → IntKind → Bool
  | .i8, .i8 => true
  | .i16, .i16 => true
  | .i32, .i32 => true
  | .i64, .i64 => true
  | .u8, .u8 => true
  | .u16, .u16 => true
  | .u32, .u32 => true
  | .u64, .u64 => true
  | _, _ => false
theorem kEq_eq {k k' : IntKind} (h : kEq k k' = true) : k = k' := by cases k <;> cases k' <;> simp_all [kEq]

/-- A byte of a string. -/
def byteAt (s : ByteArray) (i : Nat) : UInt8 := if h : i < s.size then s[i] else 0

def ltB (x y : ByteArray) : Bool := Op.bytesLess x.toList y.toList

def intV (op : BinOp) (k : IntKind) (a b : Int) (q : AV → Prop) : Prop :=
  match op with
  | .add => q (.v (.int k (k.wrap (a + b))))
  | .sub => q (.v (.int k (k.wrap (a - b))))
  | .mul => q (.v (.int k (k.wrap (a * b))))
  | .quo => Need (b ≠ 0) <| q (.v (.int k (k.wrap (a.tdiv b))))
  | .rem => Need (b ≠ 0) <| q (.v (.int k (a.tmod b)))
  | .and => q (.v (.int k (k.wrap ((BitVec.ofInt k.bits a &&& BitVec.ofInt k.bits b).toNat : Int))))
  | .or => q (.v (.int k (k.wrap ((BitVec.ofInt k.bits a ||| BitVec.ofInt k.bits b).toNat : Int))))
  | .eql => q (.v (.bool (decide (a = b))))
  | .neq => q (.v (.bool (!decide (a = b))))
  | .lss => q (.v (.bool (decide (a < b))))
  | .leq => q (.v (.bool (decide (a ≤ b))))
  | .gtr => q (.v (.bool (decide (a > b))))
  | .geq => q (.v (.bool (decide (a ≥ b))))
  | _ => False

def shiftV (op : BinOp) (k : IntKind) (a b : Int) (q : AV → Prop) : Prop :=
  match op with
  | .shl => Need (0 ≤ b) <| q (.v (.int k (k.wrap (a * 2 ^ (min b.toNat k.bits)))))
  | .shr => Need (0 ≤ b) <| q (.v (.int k (a.fdiv (2 ^ (min b.toNat k.bits)))))
  | _ => False

def strV (op : BinOp) (x y : ByteArray) (q : AV → Prop) : Prop :=
  match op with
  | .add => Need (x.size + y.size ≤ 9223372036854775807) <| q (.v (.string (x ++ y)))
  | .eql => q (.v (.bool (decide (x = y))))
  | .neq => q (.v (.bool (!decide (x = y))))
  | .lss => q (.v (.bool (ltB x y)))
  | .leq => q (.v (.bool (ltB x y || decide (x = y))))
  | .gtr => q (.v (.bool (!(ltB x y || decide (x = y)))))
  | .geq => q (.v (.bool (!ltB x y)))
  | _ => False

def cellsT (ti : TI) : AV → Option (List AV)
  | .agg cs => if ti.u.agg then some cs else none
  | x => if ti.u.agg then none else some [x]

mutual
/-- Are two values of a type equal? -/
def eqT (G : Tys) : Nat → TypeId → List AV → List AV → Option Bool
  | 0, _, _, _ => none
  | d + 1, t, xs, ys =>
    match ty G t with
    | none => none
    | some ti =>
      match ti.u, xs, ys with
      | .int _, [.v (.int k a)], [.v (.int k' b)] => if k = k' then some (decide (a = b)) else none
      | .bool, [.v (.bool a)], [.v (.bool b)] => some (a == b)
      | .str, [.v (.string a)], [.v (.string b)] => some (decide (a = b))
      | .struct fs, xs, ys => if ti.plain then eqFs G d fs xs ys else none
      | _, _, _ => none
def eqFs (G : Tys) : Nat → List (Nat × TypeId) → List AV → List AV → Option Bool
  | _, [], _, _ => some true
  | 0, _ :: _, _, _ => none
  | d + 1, f :: r, xs, ys =>
    match ty G f.2 with
    | none => none
    | some ti =>
      match readAV ti xs f.1, readAV ti ys f.1 with
      | some a, some b =>
        match cellsT ti a, cellsT ti b with
        | some ca, some cb =>
          match eqT G d f.2 ca cb, eqFs G d r xs ys with
          | some p, some q => some (p && q)
          | _, _ => none
        | _, _ => none
      | _, _ => none
end

/-- '==' on what is neither two whole numbers nor two strings. -/
def eqlV (G : Tys) (kc : Bool) (T : TypeId) (x y : AV) (q : Bool → Prop) : Prop :=
  match x, y with
  | .v (.bool a), .v (.bool b) => (match ty G T with | some ti => (match ti.u with | .bool => q (a == b) | _ => False) | none => False)
  | .agg xs, .agg ys =>
    (match ty G T with
    | some ti => Chk (ti.u.agg && ti.plain) (match eqT G 12 T xs ys with | some b => q b | none => False)
    | none => False)
  | .sl xs, .v (.slice none 0 0) => (match ty G T with | some ti => (match ti.u with | .slice _ => ∀ b, (b = true → xs = []) → q b | _ => False) | none => False)
  | .v (.slice none 0 0), .v (.slice none 0 0) => (match ty G T with | some ti => (match ti.u with | .slice _ => q true | _ => False) | none => False)
  | .ifc _ _, .v .nilIface => (match ty G T with | some ti => (match ti.u with | .iface => q false | _ => False) | none => False)
  | .v .nilIface, .v .nilIface => (match kc, ty G T with | true, some ti => (match ti.u with | .iface => q true | _ => False) | _, _ => False)
  | _, _ => False

/-- Is one of the two a constant? -/
def isK : Operand → Bool
  | .const _ => true
  | _ => false

def binV (G : Tys) (kc : Bool) (op : BinOp) (T : TypeId) (x y : AV) (q : AV → Prop) : Prop :=
  match op, x, y with
  | .shl, .v (.int k a), .v (.int _ b) => shiftV .shl k a b q
  | .shr, .v (.int k a), .v (.int _ b) => shiftV .shr k a b q
  | op, .v (.int k a), .v (.int k' b) => Chk (kEq k k') <| intV op k a b q
  | op, .v (.string a), .v (.string b) => strV op a b q
  | .eql, x, y => eqlV G kc T x y fun b => q (.v (.bool b))
  | .neq, x, y => eqlV G kc T x y fun b => q (.v (.bool (!b)))
  | _, _, _ => False

def unV (op : UnOp) (x : AV) (q : AV → Prop) : Prop :=
  match op, x with
  | .not, .v (.bool b) => q (.v (.bool (!b)))
  | .neg, .v (.int k n) => q (.v (.int k (k.wrap (0 - n))))
  | _, _ => False

def pickV (c a b : AV) (q : AV → Prop) : Prop :=
  match c with
  | .v (.bool c) =>
    (match a, b with
    | .v (.bool a), .v (.bool b) => q (.v (.bool (bif c then a else b)))
    | a, b => bif c then q a else q b)
  | _ => False

def loadV (S : St) (ti : TI) (x : AV) (q : AV → Prop) : Prop :=
  match x with
  | .ptr o off => (match S.heap[o]? with | some (.var _ cs) => (match readAV ti cs off with | some r => q r | none => False) | _ => False)
  | .eptr cs => (match readAV ti cs 0 with | some r => q r | none => False)
  | .rptr o n sz i off =>
    (match S.heap[o]? with
    | some (.row _ sz' xs) => Chk (Nat.beq sz sz') <| Need (n = xs.length) <| Elem xs i fun cs => (match readAV ti cs off with | some r => q r | none => False)
    | some (.frz sz' xs) => Chk (Nat.beq sz sz') <| Need (n = xs.length) <| Elem xs i fun cs => (match readAV ti cs off with | some r => q r | none => False)
    | _ => False)
  | _ => False

def fieldAddrV (G : Tys) (S : St) (T : TypeId) (x : AV) (f : Nat) (q : AV → Prop) : Prop :=
  match ty G T with
  | some ti =>
    (match ti.u with
    | .struct fs =>
      (match fs[f]? with
      | some (off, ft) =>
        (match ty G ft with
        | some tf => Chk (Nat.ble 1 tf.size)
          (match x with
          | .ptr o k => q (.ptr o (k + off))
          | .eptr cs => q (.eptr (cs.drop off))
          | .rptr o n sz i k => (match S.heap[o]? with | some (.row _ _ xs) => Need (n = xs.length) <| q (.rptr o n sz i (k + off)) | _ => False)
          | _ => False)
        | none => False)
      | none => False)
    | _ => False)
  | none => False

def fieldV (G : Tys) (T : TypeId) (x : AV) (f : Nat) (q : AV → Prop) : Prop :=
  match ty G T with
  | some ti =>
    (match ti.u with
    | .struct fs =>
      (match fs[f]? with
      | some (off, ft) =>
        (match ty G ft, x with
        | some tf, .agg cs => (match readAV tf cs off with | some r => q r | none => False)
        | _, _ => False)
      | none => False)
    | _ => False)
  | none => False

def indexAddrV (G : Tys) (S : St) (T : TypeId) (x i : AV) (q : AV → Prop) : Prop :=
  match ty G T, i with
  | some ti, .v (.int _ n) =>
    (match ti.u with
    | .slice el =>
      (match ty G el with
      | some te =>
        (match x with
        | .sl xs => Need (0 ≤ n) <| Elem xs n.toNat fun cs => Need (cs.length = te.size) <| q (.eptr cs)
        | .row o m =>
          (match S.heap[o]? with
          | some (.row _ sz xs) => Chk (Nat.beq sz te.size) <| Need (m = xs.length ∧ 0 ≤ n ∧ n < (m : Int)) <| q (.rptr o m sz n.toNat 0)
          | some (.frz sz xs) => Chk (Nat.beq sz te.size) <| Need (m = xs.length ∧ 0 ≤ n ∧ n < (m : Int)) <| Elem xs n.toNat fun cs => q (.eptr cs)
          | _ => False)
        | .vw o m sz lo hi =>
          (match S.heap[o]? with
          | some (.row _ sz' xs) => Chk (Nat.beq sz te.size && Nat.beq sz' sz) <| Need (m = xs.length ∧ 0 ≤ n ∧ n < ((hi - lo : Nat) : Int)) <| q (.rptr o m sz (lo + n.toNat) 0)
          | _ => False)
        | _ => False)
      | none => False)
    | .array len el =>
      (match ty G el with
      | some te =>
        (match x with
        | .ptr o k => Need (0 ≤ n ∧ n < (len : Int)) <| q (.ptr o (k + n.toNat * te.size))
        | .rptr o m sz i off =>
          (match S.heap[o]? with
          | some (.row _ sz' xs) => Chk (Nat.beq sz te.size && Nat.beq sz' sz && Nat.beq i 0 && Nat.beq off 0) <| Need (m = xs.length ∧ m = len ∧ 0 ≤ n ∧ n < (m : Int)) <| q (.rptr o m sz n.toNat 0)
          | _ => False)
        | _ => False)
      | none => False)
    | _ => False)
  | _, _ => False

def indexV (G : Tys) (T : TypeId) (x i : AV) (q : AV → Prop) : Prop :=
  match ty G T, i with
  | some ti, .v (.int _ n) =>
    (match ti.u, x with
    | .str, .v (.string s) => Need (0 ≤ n ∧ n.toNat < s.size) <| q (.v (.int .u8 ((byteAt s n.toNat).toNat : Int)))
    | _, _ => False)
  | _, _ => False

def boundV (x : Option AV) (d : Int) (q : Int → Prop) : Prop :=
  match x with
  | none => q d
  | some (.v (.int _ n)) => q n
  | _ => False

def sliceV (G : Tys) (S : St) (T : TypeId) (x : AV) (lo hi : Option AV) (q : AV → Prop) : Prop :=
  match ty G T with
  | some ti =>
    (match ti.u, x with
    | .str, .v (.string s) => boundV lo 0 fun l => boundV hi s.size fun h => Need (0 ≤ l ∧ l ≤ h ∧ h ≤ (s.size : Int)) <| q (.v (.string (s.extract l.toNat h.toNat)))
    | .slice el, .sl xs =>
      (match ty G el with
      | some te => Need (∀ cs ∈ xs, cs.length = te.size) <| boundV lo 0 fun l => boundV hi xs.length fun h => Need (0 ≤ l ∧ l ≤ h ∧ h ≤ (xs.length : Int)) <| q (.sl ((xs.take h.toNat).drop l.toNat))
      | none => False)
    | .slice el, .row o m =>
      (match ty G el, S.heap[o]? with
      | some te, some (.row _ sz xs) => Chk (Nat.beq sz te.size) <| Need (m = xs.length ∧ 0 < m) <| boundV lo 0 fun l => boundV hi m fun h => Need (0 ≤ l ∧ l ≤ h ∧ h ≤ (m : Int)) <| q (.vw o m sz l.toNat h.toNat)
      | _, _ => False)
    | .slice el, .vw o m sz a b =>
      (match ty G el, S.heap[o]? with
      | some te, some (.row _ sz' xs) => Chk (Nat.beq sz te.size && Nat.beq sz' sz) <| Need (m = xs.length) <| boundV lo 0 fun l => boundV hi ((b - a : Nat) : Int) fun h => Need (0 ≤ l ∧ l ≤ h ∧ a + h.toNat ≤ m) <| q (.vw o m sz (a + l.toNat) (a + h.toNat))
      | _, _ => False)
    | .array len el, .rptr o m sz i off =>
      (match ty G el, S.heap[o]? with
      | some te, some (.frz sz' xs) => Chk (Nat.beq sz te.size && Nat.beq sz' sz && Nat.beq i 0 && Nat.beq off 0) <| Need (m = xs.length ∧ m = len ∧ 0 < m) <| boundV lo 0 fun l => boundV hi len fun h => Need (0 ≤ l ∧ l ≤ h ∧ h ≤ (len : Int)) <| q (.sl ((xs.take h.toNat).drop l.toNat))
      | _, _ => False)
    | _, _ => False)
  | none => False

/-- 's[i:j:k]', its value of no use. -/
def slice3V (G : Tys) (S : St) (T : TypeId) (x : AV) (lo hi : Option AV) (mx : AV) (q : AV → Prop) : Prop :=
  match ty G T with
  | some ti =>
    (match ti.u, x, mx with
    | .slice el, .row o m, .v (.int _ k) =>
      (match ty G el, S.heap[o]? with
      | some te, some (.row _ sz xs) => Need (m = xs.length) <| boundV lo 0 fun l => boundV hi m fun h => Need (hi ≠ none ∧ 0 ≤ l ∧ l ≤ h ∧ h ≤ k ∧ k ≤ (m : Int)) <| q .dead
      | _, _ => False)
    | _, _, _ => False)
  | none => False

def lenV (G : Tys) (S : St) (T : TypeId) (x : AV) (q : AV → Prop) : Prop :=
  match ty G T with
  | some ti =>
    (match ti.u, x with
    | .str, .v (.string s) => q (.v (.int .i64 s.size))
    | .slice _, .sl xs => q (.v (.int .i64 xs.length))
    | .slice _, .row o n => (match S.heap[o]? with | some (.row _ _ xs) => Need (n = xs.length) <| q (.v (.int .i64 n)) | some (.frz _ xs) => Need (n = xs.length) <| q (.v (.int .i64 n)) | _ => False)
    | .slice _, .v (.slice none 0 0) => q (.v (.int .i64 0))
    | .slice _, .vw o n _ lo hi => (match S.heap[o]? with | some (.row _ _ xs) => Need (n = xs.length) <| q (.v (.int .i64 ((hi - lo : Nat) : Int))) | _ => False)
    | _, _ => False)
  | none => False

def minmaxV (mx : Bool) (x y : AV) (q : AV → Prop) : Prop :=
  match x, y with
  | .v (.int k a), .v (.int _ b) => q (.v (.int k (if mx then (if a < b then b else a) else (if b < a then b else a))))
  | _, _ => False

/-- Bytes, as whole numbers tell them. -/
def ofInts (l : List Int) : ByteArray := l.foldl (fun r n => r.push (UInt8.ofNat n.toNat)) ByteArray.empty
/-- A row of bytes. -/
structure RowInts (xs : List (List AV)) (k : List Int → Prop) : Prop where
  out : ∃ l : List Int, xs = l.map (fun n => [.v (.int .u8 n)]) ∧ k l
/-- A text out of a row of bytes. -/
def bytesV (S : St) (x : AV) (q : AV → Prop) : Prop :=
  match x with
  | .sl xs => RowInts xs fun l => q (.v (.string (ofInts l)))
  | .row o n =>
    (match S.heap[o]? with
    | some (.row _ sz xs) => Chk (Nat.beq sz 1) <| Need (n = xs.length) <| RowInts xs fun l => q (.v (.string (ofInts l)))
    | some (.frz sz xs) => Chk (Nat.beq sz 1) <| Need (n = xs.length) <| RowInts xs fun l => q (.v (.string (ofInts l)))
    | _ => False)
  | .vw o n sz lo hi =>
    (match S.heap[o]? with
    | some (.row _ sz' xs) => Chk (Nat.beq sz 1 && Nat.beq sz' 1) <| Need (n = xs.length) <| RowInts ((xs.take hi).drop lo) fun l => q (.v (.string (ofInts l)))
    | _ => False)
  | _ => False
def convV (G : Tys) (S : St) (src dst : TypeId) (x : AV) (q : AV → Prop) : Prop :=
  match ty G src, ty G dst with
  | some ts, some td =>
    (match td.u, x with
    | .int k, .v (.int _ n) => q (.v (.int k (k.wrap n)))
    | .str, .v (.string s) => q (.v (.string s))
    | .str, x =>
      (match ts.u with
      | .slice el => (match ty G el with | some te => (match te.u with | .int .u8 => bytesV S x q | _ => False) | none => False)
      | _ => False)
    | _, _ => False)
  | _, _ => False

def cellsB : AV → Option (List AV)
  | .agg cs => some cs
  | x => if x.one then some [x] else none

/-- Cells put into a row of cells. -/
def putCells (cs : List AV) (off : Nat) : List AV → List AV
  | [] => cs
  | x :: r => putCells (cs.set off x) (off + 1) r

def buildV (G : Tys) (S : St) (fs : List (Nat × TypeId)) (cs : List AV) : List (Nat × Operand) → Option (List AV)
  | [] => some cs
  | (i, x) :: r =>
    match fs[i]? with
    | none => none
    | some (off, ft) =>
      match ty G ft with
      | none => none
      | some tf =>
        match cellsB (S.ev x) with
        | none => none
        | some ys => match Nat.beq ys.length tf.size && Nat.ble (off + tf.size) cs.length with | true => buildV G S fs (putCells cs off ys) r | false => none

def builtinV (G : Tys) (S : St) (c : Callee) (args : List Operand) (ts : List TypeId) (q : AV → Prop) : Prop :=
  match c with
  | .builtin b =>
    (match b, args, ts with
    | .len, [x], [T] => lenV G S T (S.ev x) q
    | .min, [x, y], _ => minmaxV false (S.ev x) (S.ev y) q
    | .max, [x, y], _ => minmaxV true (S.ev x) (S.ev y) q
    | _, _, _ => False)
  | _ => False

/-- What is no nil. -/
def nilV (x : AV) (q : AV → Prop) : Prop :=
  match x with
  | .ptr o off => q (.ptr o off)
  | .eptr cs => q (.eptr cs)
  | .fn (.func f) first caps => q (.fn (.func f) first caps)
  | _ => False

def valOp (G : Tys) (S : St) (o : Op) (q : AV → Prop) : Prop :=
  match o with
  | .move x => q (S.ev x)
  | .assign x => q (S.ev x)
  | .nilCheck x => nilV (S.ev x) q
  | .pick c a b => pickV (S.ev c) (S.ev a) (S.ev b) q
  | .load T x => (match ty G T with | some ti => loadV S ti (S.ev x) q | none => False)
  | .binOp op T x y _ => binV G (isK x || isK y) op T (S.ev x) (S.ev y) q
  | .unOp op _ x => unV op (S.ev x) q
  | .convert s d x => convV G S s d (S.ev x) q
  | .fieldAddr T x f => fieldAddrV G S T (S.ev x) f q
  | .field T x f => fieldV G T (S.ev x) f q
  | .indexAddr T x i => indexAddrV G S T (S.ev x) (S.ev i) q
  | .index T x i => indexV G T (S.ev x) (S.ev i) q
  | .slice T x lo hi none => sliceV G S T (S.ev x) (lo.map S.ev) (hi.map S.ev) q
  | .slice T x lo hi (some mx) => slice3V G S T (S.ev x) (lo.map S.ev) (hi.map S.ev) (S.ev mx) q
  | .extract x i => (match S.ev x with | .tup vs => (match vs[i]? with | some r => q r | none => False) | _ => False)
  | .build T parts =>
    (match ty G T with
    | some ti =>
      (match ti.u with
      | .struct fs => (match buildV G S fs (ti.zero.map .v) parts.toList with | some cs => q (.agg cs) | none => False)
      | .array len el => (match ty G el with | some te => (match buildV G S ((List.range len).map fun i => (i * te.size, el)) (ti.zero.map .v) parts.toList with | some cs => q (.agg cs) | none => False) | none => False)
      | _ => False)
    | none => False)
  | .makeFunc f fs cs => q (.fn f (fs.toList.map S.ev) (cs.toList.map S.ev))
  | .makeInterface T x => (match ty G T with | some ti => Chk ti.conc <| q (.ifc T (S.ev x)) | none => False)
  | .call c => builtinV G S c.callee c.args.toList c.argTypes.toList q
  | _ => False

end Go.Ab

/- Each value operation is what the machine does. -/
namespace Go.Ab
set_option linter.unusedVariables false
set_option linter.unusedSimpArgs false

section inv
variable {w : World} {F : Nat → Prop} {e : Env} {x : Value}
theorem Rep.v_inv {y : Value} (h : Rep w F e (.v y) x) : x = y := by cases h; rfl
theorem Rep.ptr_inv {o off : Nat} (h : Rep w F e (.ptr o off) x) : o < e.len ∧ x = .pointer (some ⟨e.blk o, off, none⟩) := by cases h; exact ⟨by assumption, rfl⟩
theorem Rep.agg_inv {cs : List AV} (h : Rep w F e (.agg cs) x) : ∃ vs, x = .agg vs ∧ vs.size = cs.length ∧ ∀ (j : Nat) s, cs[j]? = some s → Rep w F e s (vs.getD j undef) := by
  cases h with | agg h r => exact ⟨_, rfl, h, r⟩
theorem Rep.tup_inv {cs : List AV} (h : Rep w F e (.tup cs) x) : ∃ vs, x = .tuple vs ∧ vs.size = cs.length ∧ ∀ (j : Nat) s, cs[j]? = some s → Rep w F e s (vs.getD j undef) := by
  cases h with | tup h r => exact ⟨_, rfl, h, r⟩
theorem Rep.ifc_inv {t : TypeId} {s : AV} (h : Rep w F e (.ifc t s) x) : ∃ y, x = .iface t y ∧ Rep w F e s y := by
  cases h with | ifc h => exact ⟨_, rfl, h⟩
theorem Rep.eptr_inv {cs : List AV} (h : Rep w F e (.eptr cs) x) : ∃ (a : Addr) (vals : Nat → Value), x = .pointer (some a) ∧ F a.block ∧ a.spot = none ∧
    (∀ (j : Nat) s, cs[j]? = some s → w.cell? ⟨a.block, a.off + j, none⟩ = some (vals j)) ∧ ∀ (j : Nat) s, cs[j]? = some s → Rep w F Env.nil s (vals j) := by
  cases h with | eptr a vals hF ha hcell hrep => exact ⟨a, vals, rfl, hF, ha, hcell, hrep⟩
theorem Rep.sl_inv {xs : List (List AV)} (h : Rep w F e (.sl xs) x) : ∃ A c, x = .slice A xs.length c ∧ xs.length ≤ c := by
  cases h with | sl sz a vals hc => exact ⟨_, _, rfl, hc⟩
theorem Rep.env {s : AV} (h : Rep w F Env.nil s x) : Rep w F e s x := h.mono (Later.refl w F) (EnvLe.nil e)
end inv

section
variable {X : Nat → Prop} {P : Program} {G : Tys} {S : St} {a : Act} {w : World} {F : Nat → Prop} {e : Env}

/-- A value of its own: the same in every world. -/
theorem yields_pure {o : Oper} {x : Value} (h : ∀ w', (execOp a.eval o).run P w' = .ok (.value x) w') : Yields1 X P o a w x := fun w' _ => h w'

theorem intV_sound {op : BinOp} {k : IntKind} {m n : Int} {q : AV → Prop} (h : intV op k m n q) (hs : op ≠ .shl) (hr : op ≠ .shr) (T : TypeId) (A B : Operand) :
    ∃ x, q (.v x) ∧ ∀ w', (do eqGuard op T A B (.int k m) (.int k n); binOp op T (.int k m) (.int k n) : Sem Value).run P w' = .ok x w' := by
  cases op <;> simp only [intV] at h <;> first | exact absurd rfl hs | exact absurd rfl hr | skip
  all_goals first
    | exact h.elim
    | (obtain ⟨hb, hq⟩ := h
       exact ⟨_, hq, fun w' => by simp [eqGuard, binOp, Op.intDiv, hb]⟩)
    | exact ⟨_, h, fun w' => by simp [eqGuard, binOp, Op.intArith, Op.intCmp, Op.intBits] <;> rfl⟩
    | exact ⟨_, h, fun w' => rfl⟩


theorem toList_eq_iff (a b : ByteArray) : (a.toList == b.toList) = decide (a = b) := by
  by_cases h : a = b
  · subst h; simp
  · have : a.toList ≠ b.toList := fun hh => h (by
      rw [ByteArray.toList_eq, ByteArray.toList_eq] at hh
      obtain ⟨⟨x⟩⟩ := a
      obtain ⟨⟨y⟩⟩ := b
      simp at hh
      subst hh; rfl)
    simp [h, this]

theorem strV_sound {op : BinOp} {m n : ByteArray} {q : AV → Prop} (h : strV op m n q) (T : TypeId) (A B : Operand) :
    ∃ x, q (.v x) ∧ ∀ w', (do eqGuard op T A B (.string m) (.string n); binOp op T (.string m) (.string n) : Sem Value).run P w' = .ok x w' := by
  cases op <;> simp only [strV] at h
  all_goals first
    | exact h.elim
    | (obtain ⟨hb, hq⟩ := h
       refine ⟨_, hq, fun w' => ?_⟩
       have hb' : ¬ (((m.size + n.size : Nat) : Int) > IntKind.i64.max) := by simp only [IntKind.max, IntKind.bits, IntKind.signed]; simp; omega
       simp [eqGuard, binOp, Op.stringOp]
       omega)
    | exact ⟨_, h, fun w' => by simp only [eqGuard, binOp, Op.stringOp, toList_eq_iff, ltB]; rfl⟩

theorem shiftV_sound {op : BinOp} {k k' : IntKind} {m n : Int} {q : AV → Prop} (h : shiftV op k m n q) (T : TypeId) (A B : Operand) :
    ∃ x, q (.v x) ∧ ∀ w', (do eqGuard op T A B (.int k m) (.int k' n); binOp op T (.int k m) (.int k' n) : Sem Value).run P w' = .ok x w' := by
  cases op <;> simp only [shiftV] at h
  all_goals first
    | exact h.elim
    | (obtain ⟨hb, hq⟩ := h
       have hb' : ¬ n < 0 := by omega
       exact ⟨_, hq, fun w' => by simp [eqGuard, binOp, Op.shift, hb']⟩)

/-- A value of a type, told by its cells. -/
def CellsOf (w : World) (F : Nat → Prop) (e : Env) (ti : TI) (xs : List AV) (x : Value) : Prop :=
  if ti.u.agg then ∃ vs, x = .agg vs ∧ vs.size = xs.length ∧ ∀ (j : Nat) s, xs[j]? = some s → Rep w F e s (vs.getD j undef) else ∃ s, xs = [s] ∧ Rep w F e s x

theorem cellsT_of {ti : TI} {r : AV} {cs : List AV} (h : cellsT ti r = some cs) {x : Value} (hx : Rep w F e r x) : CellsOf w F e ti cs x := by
  unfold CellsOf
  cases r <;> simp only [cellsT] at h
  case agg cs' =>
    split at h
    · injection h with h; subst h
      rw [if_pos (by assumption)]
      exact hx.agg_inv
    · cases h
  all_goals
    split at h
    · cases h
    · injection h with h; subst h
      rw [if_neg (by assumption)]
      exact ⟨_, rfl, hx⟩

theorem part_sound {t : TypeId} {ti : TI} (g : TGood P t ti) {cs : List AV} {off : Nat} {r : AV} (hr : readAV ti cs off = some r) {vs : Array Value} (hsz : vs.size = cs.length)
    (hrep : ∀ (j : Nat) s, cs[j]? = some s → Rep w F e s (vs.getD j undef)) : ∃ x, Rep w F e r x ∧ ∀ w', (part t vs off).run P w' = .ok x w' := by
  unfold readAV at hr
  split at hr
  case h_2 => cases hr
  rename_i hk
  split at hr
  · rename_i ha
    split at hr
    case h_2 => cases hr
    rename_i hle
    replace hle := Nat.le_of_ble_eq_true hle
    injection hr with hr
    subst hr
    refine ⟨.agg (vs.extract off (off + ti.size)), .agg (by simp; omega) (fun j s hj => ?_), fun w' => ?_⟩
    · have hlt : j < ti.size := by
        rcases Nat.lt_or_ge j ti.size with h | h
        · exact h
        · rw [List.getElem?_eq_none (by simp; omega)] at hj; cases hj
      have hj' : cs[off + j]? = some s := by
        rw [List.getElem?_take_of_lt hlt, List.getElem?_drop] at hj
        exact hj
      have hx : (vs.extract off (off + ti.size)).getD j undef = vs.getD (off + j) undef := by
        simp only [Array.getD_eq_getD_getElem?]
        rw [Array.getElem?_extract]
        rw [if_pos (by omega)]
      rw [hx]
      exact hrep _ _ hj'
    · unfold part
      rw [Sem.run_bind, g.agg ha w']
      simp [g.sizeOf w']
  · rename_i ha
    have hlt : off < cs.length := (List.getElem?_eq_some_iff.1 hr).1
    refine ⟨vs.getD off undef, hrep _ _ hr, fun w' => ?_⟩
    unfold part
    rw [Sem.run_bind, g.notagg (by simpa using ha) hk w']
    have : vs[off]? = some (vs.getD off undef) := by
      rw [Array.getD_eq_getD_getElem?, Array.getElem?_eq_getElem (by omega)]; rfl
    simp only [Result.andThen_ok, Bool.false_eq_true, if_false]
    rw [this]
    rfl

theorem eq_sound (hG : TyOk P G) : ∀ (d : Nat),
    (∀ (t : TypeId) ti xs ys b X Y, ty G t = some ti → eqT G d t xs ys = some b → CellsOf w F e ti xs X → CellsOf w F e ti ys Y → ∀ D w', d ≤ D → (Op.equalIn D t X Y).run P w' = .ok b w') ∧
    (∀ (fs : List Field) xs ys b (vs us : Array Value), (∀ g ∈ fs, g.name ≠ "_") → eqFs G d (fs.map fun g => (g.offset, g.type)) xs ys = some b →
      vs.size = xs.length → (∀ (j : Nat) s, xs[j]? = some s → Rep w F e s (vs.getD j undef)) → us.size = ys.length → (∀ (j : Nat) s, ys[j]? = some s → Rep w F e s (us.getD j undef)) →
      ∀ D w', d ≤ D → (Op.eqFields D vs us fs).run P w' = .ok b w') := by
  intro d
  induction d with
  | zero =>
    refine ⟨fun t ti xs ys b X Y ht h => by simp [eqT] at h, fun fs xs ys b vs us hn h => ?_⟩
    cases fs with
    | nil =>
      intro _ _ _ _ D w' _
      simp [eqFs] at h
      subst h
      simp [Op.eqFields]
    | cons g r => simp [eqFs] at h
  | succ d ih =>
    have hT : ∀ (t : TypeId) ti xs ys b X Y, ty G t = some ti → eqT G (d + 1) t xs ys = some b → CellsOf w F e ti xs X → CellsOf w F e ti ys Y → ∀ D w', d + 1 ≤ D → (Op.equalIn D t X Y).run P w' = .ok b w' := by
      intro t ti xs ys b X Y ht h hX hY D w' hD
      obtain ⟨D, rfl⟩ : ∃ m, D = m + 1 := ⟨D - 1, by omega⟩
      have g := hG.get ht
      obtain ⟨de, hde, hfit⟩ := g.und
      simp only [eqT, ht] at h
      split at h
      · rename_i k a k' b' hu
        rw [hu] at hfit
        simp only [U.Fits] at hfit
        subst hfit
        simp only [CellsOf, hu, U.agg, Bool.false_eq_true, if_false] at hX hY
        obtain ⟨s, hs, hX⟩ := hX
        obtain ⟨s', hs', hY⟩ := hY
        injection hs with hs _; subst hs
        injection hs' with hs' _; subst hs'
        have := hX.v_inv; subst this
        have := hY.v_inv; subst this
        split at h
        · rename_i hk; subst hk
          injection h with h; subst h
          exact run_equalIn_int w' D t _ _ a b' hde
        · cases h
      · rename_i a b' hu
        rw [hu] at hfit
        simp only [U.Fits] at hfit
        subst hfit
        simp only [CellsOf, hu, U.agg, Bool.false_eq_true, if_false] at hX hY
        obtain ⟨s, hs, hX⟩ := hX
        obtain ⟨s', hs', hY⟩ := hY
        injection hs with hs _; subst hs
        injection hs' with hs' _; subst hs'
        have := hX.v_inv; subst this
        have := hY.v_inv; subst this
        injection h with h; subst h
        exact run_equalIn_bool' w' D t a b' hde
      · rename_i a b' hu
        rw [hu] at hfit
        simp only [U.Fits] at hfit
        subst hfit
        simp only [CellsOf, hu, U.agg, Bool.false_eq_true, if_false] at hX hY
        obtain ⟨s, hs, hX⟩ := hX
        obtain ⟨s', hs', hY⟩ := hY
        injection hs with hs _; subst hs
        injection hs' with hs' _; subst hs'
        have := hX.v_inv; subst this
        have := hY.v_inv; subst this
        injection h with h; subst h
        rw [run_equalIn_string w' D t a b' hde, toList_eq_iff]
      · rename_i fs xs' ys' hu
        rw [hu] at hfit
        simp only [U.Fits] at hfit
        obtain ⟨gs, rfl, hfs, hnm⟩ := hfit
        split at h
        · rename_i hpl
          simp only [CellsOf, hu, U.agg, if_true] at hX hY
          obtain ⟨vs, rfl, h1, h2⟩ := hX
          obtain ⟨us, rfl, k1, k2⟩ := hY
          have hfo : P.fieldsOf t = gs := by simp [Program.fieldsOf, hde]
          rw [run_equalIn_struct w' D t vs us (by rw [hfo]; exact hde) (g.plain hpl).1, hfo]
          subst hfs
          exact ih.2 gs.toList _ _ b vs us hnm h h1 h2 k1 k2 D w' (by omega)
        · cases h
      · cases h
    refine ⟨hT, fun fs => ?_⟩
    intro xs ys b vs us hn h h1 h2 k1 k2 D w' hD
    cases fs with
    | nil =>
      simp [eqFs] at h
      subst h
      simp [Op.eqFields]
    | cons f r =>
      simp only [List.map_cons, eqFs] at h
      split at h
      · cases h
      rename_i ti ht
      split at h
      case h_2 => cases h
      rename_i p1 p2 hp1 hp2
      split at h
      case h_2 => cases h
      rename_i c1 c2 hc1 hc2
      split at h
      case h_2 => cases h
      rename_i b1 b2 hb1 hb2
      injection h with h
      obtain ⟨x1, hx1, e1⟩ := part_sound (hG.get ht) hp1 h1 h2
      obtain ⟨x2, hx2, e2⟩ := part_sound (hG.get ht) hp2 k1 k2
      have e3 := ih.1 f.type ti _ _ b1 x1 x2 ht hb1 (cellsT_of hc1 hx1) (cellsT_of hc2 hx2) D w' (by omega)
      have e4 := ih.2 r xs ys b2 vs us (fun g hg => hn g (List.mem_cons_of_mem _ hg)) hb2 h1 h2 k1 k2 D w' (by omega)
      have hnm : f.name ≠ "_" := hn f (List.mem_cons_self ..)
      simp only [Op.eqFields, hnm, ne_eq, not_false_eq_true, if_true, Sem.run_bind, e1, e2, e3, Result.andThen_ok]
      subst h
      cases b1
      · simp
      · simpa using e4

end
end Go.Ab

/- The value operations, all of them. -/
namespace Go.Ab
set_option linter.unusedVariables false
set_option linter.unusedSimpArgs false
section
variable {X : Nat → Prop} {P : Program} {G : Tys} {S : St} {a : Act} {w : World} {F : Nat → Prop} {e : Env}

theorem TGood.slice {t : TypeId} {ti : TI} {el : TypeId} (g : TGood P t ti) (hu : ti.u = .slice el) : P.underlying t = some (.slice el) := by
  obtain ⟨de, hde, hfit⟩ := g.und
  rw [hu] at hfit; simp only [U.Fits] at hfit; subst hfit; exact hde
theorem TGood.str {t : TypeId} {ti : TI} (g : TGood P t ti) (hu : ti.u = .str) : P.underlying t = some .string := by
  obtain ⟨de, hde, hfit⟩ := g.und
  rw [hu] at hfit; simp only [U.Fits] at hfit; subst hfit; exact hde
theorem TGood.int {t : TypeId} {ti : TI} {k : IntKind} (g : TGood P t ti) (hu : ti.u = .int k) : P.underlying t = some (.int k) := by
  obtain ⟨de, hde, hfit⟩ := g.und
  rw [hu] at hfit; simp only [U.Fits] at hfit; subst hfit; exact hde
theorem TGood.bool {t : TypeId} {ti : TI} (g : TGood P t ti) (hu : ti.u = .bool) : P.underlying t = some .bool := by
  obtain ⟨de, hde, hfit⟩ := g.und
  rw [hu] at hfit; simp only [U.Fits] at hfit; subst hfit; exact hde
theorem TGood.arr {t : TypeId} {ti : TI} {n : Nat} {el : TypeId} (g : TGood P t ti) (hu : ti.u = .array n el) : P.underlying t = some (.array n el) := by
  obtain ⟨de, hde, hfit⟩ := g.und
  rw [hu] at hfit; simp only [U.Fits] at hfit; subst hfit; exact hde
theorem TGood.iface {t : TypeId} {ti : TI} (g : TGood P t ti) (hu : ti.u = .iface) : ∃ ms, P.underlying t = some (.interface ms) := by
  obtain ⟨de, hde, hfit⟩ := g.und
  rw [hu] at hfit; simp only [U.Fits] at hfit; obtain ⟨ms, rfl⟩ := hfit; exact ⟨ms, hde⟩
theorem TGood.struct {t : TypeId} {ti : TI} {fs : List (Nat × TypeId)} (g : TGood P t ti) (hu : ti.u = .struct fs) :
    ∃ gs : Array Field, P.underlying t = some (.struct gs) ∧ fs = gs.toList.map (fun g => (g.offset, g.type)) ∧ ∀ g ∈ gs.toList, g.name ≠ "_" := by
  obtain ⟨de, hde, hfit⟩ := g.und
  rw [hu] at hfit; simp only [U.Fits] at hfit
  obtain ⟨gs, rfl, h1, h2⟩ := hfit
  exact ⟨gs, hde, h1, h2⟩

theorem equalIn_slice_nil {T : TypeId} {el : TypeId} (h : P.underlying T = some (.slice el)) (d : Nat) (A : Option Addr) (n c : Nat) (w' : World) :
    (Op.equalIn (d + 1) T (.slice A n c) (.slice none 0 0)).run P w' = .ok A.isNone w' := by
  cases A <;> simp [Op.equalIn, run_underlying h]
theorem equalIn_iface_nil {T : TypeId} {ms : Array (String × TypeId)} (h : P.underlying T = some (.interface ms)) (d : Nat) (t : TypeId) (z : Value) (w' : World) :
    (Op.equalIn (d + 1) T (.iface t z) .nilIface).run P w' = .ok false w' := by
  simp [Op.equalIn, run_underlying h]

theorem equalIn_nil_nil {T : TypeId} {ms : Array (String × TypeId)} (h : P.underlying T = some (.interface ms)) (d : Nat) (w' : World) :
    (Op.equalIn (d + 1) T .nilIface .nilIface).run P w' = .ok true w' := by
  simp [Op.equalIn, run_underlying h]
theorem eqGuard_nil {op : BinOp} {T : TypeId} {A B : Operand} (h : (isK A || isK B) = true) (w' : World) : (eqGuard op T A B .nilIface .nilIface).run P w' = .ok () w' := by
  cases A <;> cases B <;> simp [isK] at h <;> cases op <;> simp [eqGuard]

theorem eqlV_sound (hG : TyOk P G) (H : Here S a w F e) {T : TypeId} {A B : Operand} {q : Bool → Prop} (h : eqlV G (isK A || isK B) T (S.ev A) (S.ev B) q) (neg : Bool) :
    ∃ b, q b ∧ ∀ w', Agree X w w' → (do eqGuard (bif neg then .neq else .eql) T A B (a.eval A) (a.eval B); binOp (bif neg then .neq else .eql) T (a.eval A) (a.eval B) : Sem Value).run P w' = .ok (.bool (bif neg then !b else b)) w' := by
  have hx := H.ev A
  have hy := H.ev B
  generalize S.ev A = x at *
  generalize S.ev B = y at *
  generalize a.eval A = X at *
  generalize a.eval B = Y at *
  unfold eqlV at h
  split at h
  · rename_i p r
    split at h
    case h_2 => exact h.elim
    rename_i ti ht
    split at h
    case h_2 => exact h.elim
    rename_i hu
    have hde := (hG.get ht).bool hu
    have := hx.v_inv; subst this
    have := hy.v_inv; subst this
    refine ⟨_, h, fun w' _ => ?_⟩
    cases neg <;> simp [eqGuard, binOp, Op.equal, Op.maxDepth, run_equalIn_bool' w' 9999 T p r hde]
  · rename_i xs ys
    split at h
    case h_2 => exact h.elim
    rename_i ti ht
    obtain ⟨hagp, h⟩ := h.elim
    simp only [Bool.and_eq_true] at hagp
    obtain ⟨hag, hpl⟩ := hagp
    split at h
    case h_2 => exact h.elim
    rename_i b hb
    have g := hG.get ht
    obtain ⟨vs, rfl, h1, h2⟩ := hx.agg_inv
    obtain ⟨us, rfl, k1, k2⟩ := hy.agg_inv
    refine ⟨b, h, fun w' _ => ?_⟩
    have := (eq_sound (P := P) (w := w) (F := F) (e := e) hG 12).1 T ti xs ys b (.agg vs) (.agg us) ht hb (by unfold CellsOf; rw [if_pos hag]; exact ⟨vs, rfl, h1, h2⟩) (by unfold CellsOf; rw [if_pos hag]; exact ⟨us, rfl, k1, k2⟩) 10000 w' (by omega)
    cases neg
    · simp only [cond_false, Sem.run_bind, run_eqGuard_agg w' .eql T A B vs us (g.plain hpl).2, Result.andThen_ok, run_eql_struct w' T vs us, this]
    · simp only [cond_true, Sem.run_bind, run_eqGuard_agg w' .neq T A B vs us (g.plain hpl).2, Result.andThen_ok, run_neq_struct w' T vs us, this]
  · rename_i xs
    split at h
    case h_2 => exact h.elim
    rename_i ti ht
    split at h
    case h_2 => exact h.elim
    rename_i el hu
    have hde := (hG.get ht).slice hu
    have := hy.v_inv; subst this
    cases hx with
    | @sl _ _ A' c sz ad vals hc hA hsz hone hcell hrep =>
      refine ⟨A'.isNone, h _ (fun hn => ?_), fun w' _ => ?_⟩
      · by_cases hx : xs = []
        · exact hx
        · rw [(hA hx).1] at hn; simp at hn
      · cases neg <;> simp [eqGuard, binOp, Op.equal, Op.maxDepth, equalIn_slice_nil hde 9999]
  · split at h
    case h_2 => exact h.elim
    rename_i ti ht
    split at h
    case h_2 => exact h.elim
    rename_i el hu
    have hde := (hG.get ht).slice hu
    have := hx.v_inv; subst this
    have := hy.v_inv; subst this
    refine ⟨_, h, fun w' _ => ?_⟩
    cases neg <;> simp [eqGuard, binOp, Op.equal, Op.maxDepth, equalIn_slice_nil hde 9999]
  · rename_i t s
    split at h
    case h_2 => exact h.elim
    rename_i ti ht
    split at h
    case h_2 => exact h.elim
    rename_i hu
    obtain ⟨ms, hde⟩ := (hG.get ht).iface hu
    obtain ⟨z, rfl, _⟩ := hx.ifc_inv
    have := hy.v_inv; subst this
    refine ⟨_, h, fun w' _ => ?_⟩
    cases neg <;> simp [eqGuard, binOp, Op.equal, Op.maxDepth, equalIn_iface_nil hde 9999]
  · split at h
    case h_2 => exact h.elim
    rename_i hk ti hkc ht
    split at h
    case h_2 => exact h.elim
    rename_i hu
    obtain ⟨ms, hde⟩ := (hG.get ht).iface hu
    have := hx.v_inv; subst this
    have := hy.v_inv; subst this
    refine ⟨_, h, fun w' _ => ?_⟩
    have hg := fun op => eqGuard_nil (P := P) (op := op) (T := T) hkc w'
    cases neg <;> simp [hg, binOp, Op.equal, Op.maxDepth, equalIn_nil_nil hde 9999]
  · exact h.elim

theorem binV_sound (hG : TyOk P G) (H : Here S a w F e) {op : BinOp} {T yT : TypeId} {A B : Operand} {q : AV → Prop} {o : Oper} (ho : o.op = .binOp op T A B yT)
    (h : binV G (isK A || isK B) op T (S.ev A) (S.ev B) q) : ∃ r x, q r ∧ Rep w F e r x ∧ Yields1 X P o a w x := by
  have run : ∀ (x : Value) (w' : World), (do eqGuard op T A B (a.eval A) (a.eval B); binOp op T (a.eval A) (a.eval B) : Sem Value).run P w' = .ok x w' → (execOp a.eval o).run P w' = .ok (.value x) w' := by
    intro x w' hx
    unfold execOp
    simp only [ho]
    rw [Sem.run_bind, hx]
    rfl
  have hx := H.ev A
  have hy := H.ev B
  unfold binV at h
  split at h
  · rename_i k m k' n h1 h2
    rw [h1] at hx; rw [h2] at hy
    have ex := hx.v_inv; have ey := hy.v_inv
    obtain ⟨x, hq, hr⟩ := shiftV_sound (P := P) (k' := k') h T A B
    exact ⟨_, x, hq, .v, fun w' _ => run x w' (by rw [ex, ey]; exact hr w')⟩
  · rename_i k m k' n h1 h2
    rw [h1] at hx; rw [h2] at hy
    have ex := hx.v_inv; have ey := hy.v_inv
    obtain ⟨x, hq, hr⟩ := shiftV_sound (P := P) (k' := k') h T A B
    exact ⟨_, x, hq, .v, fun w' _ => run x w' (by rw [ex, ey]; exact hr w')⟩
  · rename_i k m k' n hs hr h1 h2
    rw [h1] at hx; rw [h2] at hy
    have ex := hx.v_inv; have ey := hy.v_inv
    have hh := h.elim
    clear h
    obtain ⟨hk, h⟩ := hh
    replace hk := kEq_eq hk
    subst hk
    obtain ⟨x, hq, hr⟩ := intV_sound (P := P) h hs hr T A B
    exact ⟨_, x, hq, .v, fun w' _ => run x w' (by rw [ex, ey]; exact hr w')⟩
  · rename_i m n h1 h2
    rw [h1] at hx; rw [h2] at hy
    have ex := hx.v_inv; have ey := hy.v_inv
    obtain ⟨x, hq, hr⟩ := strV_sound (P := P) h T A B
    exact ⟨_, x, hq, .v, fun w' _ => run x w' (by rw [ex, ey]; exact hr w')⟩
  · obtain ⟨b, hq, hr⟩ := eqlV_sound hG H h false
    exact ⟨_, _, hq, .v, fun w' hw => run _ w' (by simpa using hr w' hw)⟩
  · obtain ⟨b, hq, hr⟩ := eqlV_sound hG H h true
    exact ⟨_, _, hq, .v, fun w' hw => run _ w' (by simpa using hr w' hw)⟩
  · exact h.elim

end
end Go.Ab

/- The value operations, all of them, in one theorem. -/
namespace Go.Ab
set_option linter.unusedVariables false
set_option linter.unusedSimpArgs false
section
variable {X : Nat → Prop} {P : Program} {G : Tys} {S : St} {a : Act} {w : World} {F : Nat → Prop} {e : Env}

/-- What the soundness of one operation says. -/
def Sound1 (X : Nat → Prop) (P : Program) (o : Oper) (a : Act) (w : World) (F : Nat → Prop) (e : Env) (q : AV → Prop) : Prop := ∃ r x, q r ∧ Rep w F e r x ∧ Yields1 X P o a w x

theorem HRep.var {H : List Ob} (h : HRep w F e H) {o : Nat} {T : TypeId} {cs : List AV} (ho : H[o]? = some (.var T cs)) :
    ∃ vs, w.heap[e.blk o]? = some (.cells vs T (0, 0)) ∧ vs.size = cs.length ∧ ¬ F (e.blk o) ∧ ∀ (j : Nat) s, cs[j]? = some s → Rep w F e s (vs.getD j undef) := by
  obtain ⟨h1, vs, h2, h3, h4⟩ := h.ob o _ ho
  exact ⟨vs, h2, h3, h1, h4⟩

theorem getElem?_of_getD {vs : Array Value} {j : Nat} (h : j < vs.size) : vs[j]? = some (vs.getD j undef) := by
  rw [Array.getD_eq_getD_getElem?, Array.getElem?_eq_getElem h]; rfl

theorem unV_sound (H : Here S a w F e) {op : UnOp} {T : TypeId} {A : Operand} {q : AV → Prop} {o : Oper} (ho : o.op = .unOp op T A) (h : unV op (S.ev A) q) : Sound1 X P o a w F e q := by
  have hx := H.ev A
  unfold unV at h
  split at h
  · rename_i b h1
    rw [h1] at hx
    have ex := hx.v_inv
    exact ⟨_, _, h, .v, fun w' _ => by simp [execOp, ho, ex, Op.unary]⟩
  · rename_i k n h1
    rw [h1] at hx
    have ex := hx.v_inv
    exact ⟨_, _, h, .v, fun w' _ => by simp [execOp, ho, ex, Op.unary, Op.intArith]⟩
  · exact h.elim

theorem pickV_sound (H : Here S a w F e) {A B C : Operand} {q : AV → Prop} {o : Oper} (ho : o.op = .pick C A B) (h : pickV (S.ev C) (S.ev A) (S.ev B) q) : Sound1 X P o a w F e q := by
  have hc := H.ev C
  have hx := H.ev A
  have hy := H.ev B
  unfold pickV at h
  split at h
  case h_2 => exact h.elim
  rename_i c h1
  rw [h1] at hc
  have ec := hc.v_inv
  split at h
  · rename_i p r h2 h3
    rw [h2] at hx; rw [h3] at hy
    have ex := hx.v_inv; have ey := hy.v_inv
    exact ⟨_, _, h, .v, fun w' _ => by cases c <;> simp [execOp, ho, ec, ex, ey, asBool]⟩
  · cases c
    · exact ⟨_, _, h, hy, fun w' _ => by simp [execOp, ho, ec, asBool]⟩
    · exact ⟨_, _, h, hx, fun w' _ => by simp [execOp, ho, ec, asBool]⟩

theorem loadV_sound (hG : TyOk P G) (H : Here S a w F e) {T : TypeId} {A : Operand} {q : AV → Prop} {o : Oper} {ti : TI} (ht : ty G T = some ti) (ho : o.op = .load T A) (hok : XOk X F e S o.op) (h : loadV S ti (S.ev A) q) : Sound1 X P o a w F e q := by
  have hx := H.ev A
  have g := hG.get ht
  have fin : ∀ (ad : Addr) (x : Value), a.eval A = .pointer (some ad) → (∀ w', Agree X w w' → (loadVar T ad).run P w' = .ok x w') → Yields1 X P o a w x := by
    intro ad x hA hr w' hw
    simp [execOp, ho, hA, Instr.loadAt, Instr.sureAddr, hr w' hw]
  unfold loadV at h
  split at h
  · rename_i ob off h1
    rw [h1] at hx
    obtain ⟨ho', ex⟩ := hx.ptr_inv
    split at h
    case h_2 => exact h.elim
    rename_i T' cs hob
    split at h
    case h_2 => exact h.elim
    rename_i r hr
    obtain ⟨vs, hb, hsz, _, hrep⟩ := H.heap.var hob
    obtain ⟨x, hx', hrun⟩ := read_sound g hr (e.blk ob) 0 (fun j => vs.getD j undef) (fun j s hj => by
      rw [cell_of_row w _ _ vs T' _ hb, Nat.zero_add]
      exact getElem?_of_getD (by rw [hsz]; exact (List.getElem?_eq_some_iff.1 hj).1)) hrep (hok.var _ _ _ _ ho h1)
    rw [Nat.zero_add] at hrun
    exact ⟨r, x, h, hx', fin _ x ex hrun⟩
  · rename_i cs h1
    rw [h1] at hx
    obtain ⟨ad, vals, ex, hF, hsp, hcell, hrep⟩ := hx.eptr_inv
    split at h
    case h_2 => exact h.elim
    rename_i r hr
    obtain ⟨x, hx', hrun⟩ := read_sound g hr ad.block ad.off vals hcell (fun j s hj => (hrep j s hj).env) (hok.frz _ _ _ ho h1 _ hF)
    refine ⟨r, x, h, hx', fin _ x ex ?_⟩
    rw [Nat.add_zero] at hrun
    have : (⟨ad.block, ad.off, none⟩ : Addr) = ad := by cases ad; simp_all
    rwa [this] at hrun
  · rename_i ob n sz i off h1
    rw [h1] at hx
    split at h
    · rename_i el sz' xs hob
      have hh := h.eqn
      clear h
      obtain ⟨rfl, ⟨rfl, hh⟩⟩ := hh
      obtain ⟨cs, hcs, h⟩ := hh.out
      split at h
      case h_2 => exact h.elim
      rename_i r hr
      obtain ⟨hrl, hown⟩ := H.heap.ob ob _ hob
      obtain ⟨hsz, hown⟩ := hown
      generalize hX : a.eval A = X at hx
      cases hx with
      | rptrold _ hn => omega
      | @rptr _ _ _ _ _ _ b m c hlt hn hv =>
        rcases hown with ⟨hnil, _⟩ | ⟨b', c', vs, hv', hF, hb, hvs, hle, hmx, hrep⟩
        · subst hnil; simp at hcs
        · rw [hv] at hv'
          injection hv' with hv' _ _
          injection hv' with hv'
          injection hv' with hv' _ _
          subst hv'
          have hil : i < xs.length := (List.getElem?_eq_some_iff.1 hcs).1
          have hcl := (hsz i cs hcs).1
          have hbig : i * sz + sz ≤ vs.size := by rw [hvs, ← Nat.succ_mul]; exact Nat.mul_le_mul_right _ (by omega)
          obtain ⟨x, hx', hrun⟩ := read_sound (e := e) g hr b (i * sz) (fun j => vs.getD (i * sz + j) undef) (fun j s hj => by
            rw [cell_of_row w _ _ vs el _ hb]
            exact getElem?_of_getD (by have := (List.getElem?_eq_some_iff.1 hj).1; omega)) (fun j s hj => by
              obtain ⟨y, hy, hyr⟩ := hrep i cs j s hcs hj
              have : vs.getD (i * sz + j) undef = y := by rw [Array.getD_eq_getD_getElem?, hy]; rfl
              rw [this]; exact hyr.env) (hok.row _ _ _ _ _ _ _ ho h1 _)
          exact ⟨r, x, h, hx', fin _ x hX hrun⟩
    · rename_i sz' xs hob
      have hh := h.eqn
      clear h
      obtain ⟨rfl, ⟨rfl, hh⟩⟩ := hh
      obtain ⟨cs, hcs, h⟩ := hh.out
      split at h
      case h_2 => exact h.elim
      rename_i r hr
      obtain ⟨hrl, hsz, hsl⟩ := H.heap.ob ob _ hob
      generalize hX : a.eval A = X at hx
      cases hx with
      | rptrold _ hn => omega
      | @rptr _ _ _ _ _ _ b m c hlt hn hv =>
        rw [hv] at hsl
        cases hsl with
        | sl sz2 ad vals hc hA hsz2 hone hcell hrep =>
          have hne : xs ≠ [] := by intro hh; subst hh; simp at hcs
          obtain ⟨hA1, hA2, hA3⟩ := hA hne
          injection hA1 with hA1
          subst hA1
          have e1 := hsz i cs hcs
          have e2 := hsz2 i cs hcs
          have : sz2 = sz := by omega
          subst this
          obtain ⟨x, hx', hrun⟩ := read_sound (e := e) g hr b (i * sz2) (fun j => vals i j) (fun j s hj => by
            have := hcell i cs j s hcs hj
            simpa using this) (fun j s hj => (hrep i cs j s hcs hj).env) (hok.row _ _ _ _ _ _ _ ho h1 _)
          exact ⟨r, x, h, hx', fin _ x hX hrun⟩
    · exact h.elim
  · exact h.elim

end
end Go.Ab

/- The rest of the value operations, and the one theorem on all of them. -/
namespace Go.Ab
set_option linter.unusedVariables false
set_option linter.unusedSimpArgs false
section
variable {X : Nat → Prop} {P : Program} {G : Tys} {S : St} {a : Act} {w : World} {F : Nat → Prop} {e : Env}

theorem field_at {t : TypeId} {ti : TI} {fs : List (Nat × TypeId)} (g : TGood P t ti) (hu : ti.u = .struct fs) {f off : Nat} {ft : TypeId} (hf : fs[f]? = some (off, ft)) :
    ∃ gs fd, P.underlying t = some (.struct gs) ∧ gs[f]? = some fd ∧ fd.offset = off ∧ fd.type = ft := by
  obtain ⟨gs, hde, hfs, _⟩ := g.struct hu
  subst hfs
  rw [List.getElem?_map] at hf
  cases hj : gs.toList[f]? with
  | none => rw [hj] at hf; cases hf
  | some fd =>
    rw [hj] at hf
    simp at hf
    exact ⟨gs, fd, hde, by simpa using hj, hf.1, hf.2⟩

theorem run_fieldAt {t : TypeId} {ti tf : TI} {fs : List (Nat × TypeId)} (g : TGood P t ti) (hu : ti.u = .struct fs) {f off : Nat} {ft : TypeId} (hf : fs[f]? = some (off, ft)) (gf : TGood P ft tf) (hz : tf.size ≠ 0) (ad : Addr) (w' : World) :
    (Instr.fieldAt t (.pointer (some ad)) f).run P w' = .ok (.pointer (some (ad.add off))) w' := by
  obtain ⟨gs, fd, hde, hgs, h1, h2⟩ := field_at g hu hf
  have hs := gf.sizeOf w'
  rw [← h2] at hs
  simp [Instr.fieldAt, run_underlying hde, hgs, Instr.sureAddr, fieldPlace, hs, hz, h1]

theorem fieldAddrV_sound (hG : TyOk P G) (H : Here S a w F e) {T : TypeId} {A : Operand} {f : Nat} {q : AV → Prop} {o : Oper} (ho : o.op = .fieldAddr T A f) (h : fieldAddrV G S T (S.ev A) f q) : Sound1 X P o a w F e q := by
  have hx := H.ev A
  unfold fieldAddrV at h
  split at h
  case h_2 => exact h.elim
  rename_i ti ht
  split at h
  case h_2 => exact h.elim
  rename_i fs hu
  split at h
  case h_2 => exact h.elim
  rename_i off ft hf
  split at h
  case h_2 => exact h.elim
  rename_i tf htf
  obtain ⟨hz, h⟩ := h.len
  have hz : tf.size ≠ 0 := by omega
  have fin : ∀ (ad : Addr), a.eval A = .pointer (some ad) → Yields1 X P o a w (.pointer (some (ad.add off))) := by
    intro ad hA w' _
    simp [execOp, ho, hA, run_fieldAt (hG.get ht) hu hf (hG.get htf) hz ad w']
  split at h
  · rename_i ob k h1
    rw [h1] at hx
    obtain ⟨hl, ex⟩ := hx.ptr_inv
    exact ⟨_, _, h, by rw [addr_add rfl]; exact .ptr hl, fin _ ex⟩
  · rename_i cs h1
    rw [h1] at hx
    obtain ⟨ad, vals, ex, hF, hsp, hcell, hrep⟩ := hx.eptr_inv
    refine ⟨_, _, h, ?_, fin _ ex⟩
    rw [addr_add hsp]
    refine .eptr _ (fun j => vals (off + j)) hF rfl (fun j s hj => ?_) (fun j s hj => ?_)
    · rw [List.getElem?_drop] at hj
      have := hcell _ s hj
      simpa [Nat.add_assoc] using this
    · rw [List.getElem?_drop] at hj
      exact hrep _ s hj
  · rename_i ob n sz i k h1
    rw [h1] at hx
    split at h
    case h_2 => exact h.elim
    rename_i el sz' xs hob
    obtain ⟨hn', h⟩ := h
    obtain ⟨hrl, _⟩ := H.heap.ob ob _ hob
    generalize hX : a.eval A = X at hx
    cases hx with
    | rptrold hl hn => omega
    | rptr hl hn hv =>
      refine ⟨_, _, h, ?_, fin _ hX⟩
      rw [addr_add rfl, Nat.add_assoc]
      exact .rptr hl hn hv
  · exact h.elim


theorem fieldV_sound (hG : TyOk P G) (H : Here S a w F e) {T : TypeId} {A : Operand} {f : Nat} {q : AV → Prop} {o : Oper} (ho : o.op = .field T A f) (h : fieldV G T (S.ev A) f q) : Sound1 X P o a w F e q := by
  have hx := H.ev A
  unfold fieldV at h
  split at h
  case h_2 => exact h.elim
  rename_i ti ht
  split at h
  case h_2 => exact h.elim
  rename_i fs hu
  split at h
  case h_2 => exact h.elim
  rename_i off ft hf
  split at h
  case h_2 => exact h.elim
  rename_i tf cs htf h1
  split at h
  case h_2 => exact h.elim
  rename_i r hr
  rw [h1] at hx
  obtain ⟨vs, ex, hsz, hrep⟩ := hx.agg_inv
  obtain ⟨x, hx', hrun⟩ := part_sound (hG.get htf) hr hsz hrep
  refine ⟨r, x, h, hx', fun w' _ => ?_⟩
  obtain ⟨gs, fd, hde, hgs, h2, h3⟩ := field_at (hG.get ht) hu hf
  have := hrun w'
  rw [← h2, ← h3] at this
  simp [execOp, ho, ex, Instr.field, run_underlying hde, hgs, asAgg, this]

theorem index_slice {t el : TypeId} {te : TI} (hde : P.underlying t = some (.slice el)) (ge : TGood P el te) (k : IntKind) (n : Int) (ad : Addr) (m c : Nat) (h0 : 0 ≤ n) (h1 : n < (m : Int)) (w' : World) :
    (Instr.indexAt t (.slice (some ad) m c) (.int k n)).run P w' = .ok (.pointer (some (ad.add (n.toNat * te.size)))) w' := by
  simp [Instr.indexAt, asIntOf, run_underlying hde, h0, h1, ge.sizeOf w']

theorem indexAddrV_sound (hG : TyOk P G) (H : Here S a w F e) {T : TypeId} {A I : Operand} {q : AV → Prop} {o : Oper} (ho : o.op = .indexAddr T A I) (h : indexAddrV G S T (S.ev A) (S.ev I) q) : Sound1 X P o a w F e q := by
  have hx := H.ev A
  have hi := H.ev I
  unfold indexAddrV at h
  split at h
  case h_2 => exact h.elim
  rename_i ti k n ht h2
  rw [h2] at hi
  have ei := hi.v_inv
  split at h
  · rename_i el hu
    have hde := (hG.get ht).slice hu
    split at h
    case h_2 => exact h.elim
    rename_i te hte
    have ge := hG.get hte
    split at h
    · rename_i xs h1
      rw [h1] at hx
      obtain ⟨h0, h⟩ := h
      obtain ⟨cs, hcs, hlen, hq⟩ := h.out
      generalize hX : a.eval A = X at hx
      cases hx with
      | @sl _ _ A' c sz ad vals hc hA hsz hone hcell hrep =>
        have hne : xs ≠ [] := by intro hh; subst hh; simp at hcs
        obtain ⟨hA1, hA2, hA3⟩ := hA hne
        subst hA1
        have hil : n.toNat < xs.length := (List.getElem?_eq_some_iff.1 hcs).1
        have hsz' : sz = te.size := by rw [← hsz _ _ hcs, hlen]
        subst hsz'
        refine ⟨_, .pointer (some (ad.add (n.toNat * te.size))), hq, ?_, fun w' _ => by simp [execOp, ho, hX, ei, index_slice hde ge k n ad xs.length c h0 (by omega) w']⟩
        rw [addr_add hA3]
        exact .eptr _ (fun j => vals n.toNat j) hA2 rfl (fun j s hj => hcell _ _ j s hcs hj) (fun j s hj => hrep _ _ j s hcs hj)
    · rename_i ob m h1
      rw [h1] at hx
      split at h
      · rename_i el' sz xs hob
        obtain ⟨hsz, h⟩ := h.eqn
        obtain ⟨⟨hm, h0, hlt⟩, hq⟩ := h
        obtain ⟨hrl, hown⟩ := H.heap.ob ob _ hob
        obtain ⟨_, hown⟩ := hown
        generalize hX : a.eval A = X at hx
        cases hx with
        | rowold _ hn => omega
        | @row _ _ _ A2 m2 c2 hl hn hv2 =>
          replace hX := hX.trans hv2.symm
          rcases hown with ⟨hnil, _⟩ | ⟨b, c, vs, hv, hF, hb, hvs, hle, hmx, hrep⟩
          · subst hnil; simp at hm; omega
          · refine ⟨_, _, hq, .rptr hl hn hv, fun w' _ => ?_⟩
            rw [hv] at hX
            have := index_slice (P := P) hde ge k n ⟨b, 0, none⟩ xs.length c h0 (by omega) w'
            rw [addr_add rfl] at this
            simp only [Nat.zero_add] at this
            simp [execOp, ho, hX, ei, this, hsz]
      · rename_i sz xs hob
        obtain ⟨hsz, h⟩ := h.eqn
        obtain ⟨⟨hm, h0, hlt⟩, h⟩ := h
        obtain ⟨cs, hcs, hq⟩ := h.out
        obtain ⟨hrl, hsz2, hsl⟩ := H.heap.ob ob _ hob
        generalize hX : a.eval A = X at hx
        cases hx with
        | rowold _ hn => omega
        | @row _ _ _ A2 m2 c2 hl hn hv2 =>
          replace hX := hX.trans hv2.symm
          clear hv2
          generalize e.rowv ob = X at hsl hX
          cases hsl with
          | @sl _ _ A' c sz3 ad vals hc hA hsz3 hone hcell hrep =>
            have hne : xs ≠ [] := by intro hh; subst hh; simp at hcs
            obtain ⟨hA1, hA2, hA3⟩ := hA hne
            subst hA1
            have hsz' : sz3 = te.size := by rw [← hsz3 _ _ hcs, ← hsz, hsz2 _ _ hcs]
            subst hsz'
            refine ⟨_, .pointer (some (ad.add (n.toNat * te.size))), hq, ?_, fun w' _ => by simp [execOp, ho, hX, ei, index_slice hde ge k n ad xs.length c h0 (by omega) w']⟩
            rw [addr_add hA3]
            exact .eptr _ (fun j => vals n.toNat j) hA2 rfl (fun j s hj => hcell _ _ j s hcs hj) (fun j s hj => hrep _ _ j s hcs hj)
      · exact h.elim
    · rename_i ob m sz lo hi h1
      rw [h1] at hx
      split at h
      case h_2 => exact h.elim
      rename_i el' sz' xs hob
      have hh := h.elim
      clear h
      obtain ⟨hz, ⟨⟨hm, h0, hlt⟩, hq⟩⟩ := hh
      simp only [Bool.and_eq_true] at hz
      have hsz := Nat.eq_of_beq_eq_true hz.1
      obtain ⟨hrl, hown⟩ := H.heap.ob ob _ hob
      obtain ⟨_, hown⟩ := hown
      generalize hX : a.eval A = X at hx
      cases hx with
      | vwold _ hn => omega
      | @vw _ _ _ _ _ _ b mm c off hl hn hv hle hhi hpos hoff =>
        rcases hown with ⟨hnil, _⟩ | ⟨b', c', vs, hv', hF, hb, hvs, hcap, hmx, hrep⟩
        · subst hnil; simp at hm; omega
        · rw [hv] at hv'
          injection hv' with hv' hmm hcc
          subst hcc
          refine ⟨_, _, hq, .rptr hl hn hv, fun w' _ => ?_⟩
          have := index_slice (P := P) hde ge k n ⟨b, off, none⟩ (hi - lo) (c - lo) h0 hlt w'
          rw [hoff (by omega)] at hX this
          rw [addr_add rfl] at this
          have e1 : (lo + n.toNat) * sz + 0 = lo * sz + n.toNat * te.size := by rw [Nat.add_mul, hsz]; rfl
          rw [e1]
          simp [execOp, ho, hX, ei, this]
    · exact h.elim
  · rename_i len el hu
    have hde := (hG.get ht).arr hu
    split at h
    case h_2 => exact h.elim
    rename_i te hte
    have ge := hG.get hte
    split at h
    · rename_i ob kk h1
      rw [h1] at hx
      obtain ⟨⟨h0, hlt⟩, hq⟩ := h
      obtain ⟨hl, ex⟩ := hx.ptr_inv
      refine ⟨_, .pointer (some ⟨e.blk ob, kk + n.toNat * te.size, none⟩), hq, .ptr hl, fun w' _ => ?_⟩
      simp [execOp, ho, ex, ei, Instr.indexAt, asIntOf, run_underlying hde, Instr.sureAddr, h0, hlt, ge.sizeOf w', addr_add]
    · rename_i ob m sz i off h1
      rw [h1] at hx
      split at h
      case h_2 => exact h.elim
      rename_i el' sz' xs hob
      have hh := h.elim
      clear h
      obtain ⟨hz, ⟨⟨hm, hml, h0, hlt⟩, hq⟩⟩ := hh
      simp only [Bool.and_eq_true] at hz
      have z1 := Nat.eq_of_beq_eq_true hz.1.1.1
      have z3 := Nat.eq_of_beq_eq_true hz.1.2
      have z4 := Nat.eq_of_beq_eq_true hz.2
      subst z3; subst z4
      obtain ⟨hrl, _⟩ := H.heap.ob ob _ hob
      generalize hX : a.eval A = X at hx
      cases hx with
      | rptrold _ hn => omega
      | @rptr _ _ _ _ _ _ b mm c hl hn hv =>
        refine ⟨_, .pointer (some ⟨b, n.toNat * sz + 0, none⟩), hq, .rptr hl hn hv, fun w' _ => ?_⟩
        have hlt' : n < (len : Int) := by omega
        simp [execOp, ho, hX, ei, Instr.indexAt, asIntOf, run_underlying hde, Instr.sureAddr, h0, hlt', ge.sizeOf w', addr_add, z1]
    · exact h.elim
  · exact h.elim

theorem indexV_sound (hG : TyOk P G) (H : Here S a w F e) {T : TypeId} {A I : Operand} {q : AV → Prop} {o : Oper} (ho : o.op = .index T A I) (h : indexV G T (S.ev A) (S.ev I) q) : Sound1 X P o a w F e q := by
  have hx := H.ev A
  have hi := H.ev I
  unfold indexV at h
  split at h
  case h_2 => exact h.elim
  rename_i ti k n ht h2
  rw [h2] at hi
  have ei := hi.v_inv
  split at h
  case h_2 => exact h.elim
  rename_i s hu h1
  rw [h1] at hx
  have ex := hx.v_inv
  have hde := (hG.get ht).str hu
  obtain ⟨⟨h0, hlt⟩, hq⟩ := h
  refine ⟨_, _, hq, .v, fun w' _ => ?_⟩
  have : s[n.toNat]? = some (byteAt s n.toNat) := by
    rw [getElem?_pos s n.toNat hlt]
    simp [byteAt, hlt]
  simp [execOp, ho, ex, ei, Instr.index, asIntOf, run_underlying hde, h0, this]

theorem boundV_inv {x : Option Operand} {d : Int} {q : Int → Prop} (H : Here S a w F e) (h : boundV (x.map S.ev) d q) :
    ∃ n, q n ∧ (x = none ∧ n = d ∨ ∃ A k, x = some A ∧ a.eval A = .int k n) := by
  cases x with
  | none => exact ⟨d, h, .inl ⟨rfl, rfl⟩⟩
  | some A =>
    have hx := H.ev A
    simp only [Option.map_some, boundV] at h
    split at h
    · rename_i hh; cases hh
    · rename_i k n h1
      injection h1 with h1
      rw [h1] at hx
      exact ⟨_, h, .inr ⟨A, k, rfl, hx.v_inv⟩⟩
    · exact h.elim

theorem bounds_run {isSlice : Bool} {lo hi : Option Operand} {l h : Int} {len cap : Nat} (hc : len ≤ cap) (hl : lo = none ∧ l = 0 ∨ ∃ A k, lo = some A ∧ a.eval A = .int k l)
    (hh : hi = none ∧ h = len ∨ ∃ A k, hi = some A ∧ a.eval A = .int k h) (h0 : 0 ≤ l) (h1 : l ≤ h) (h2 : h ≤ len) (w' : World) :
    (Instr.sliceBounds isSlice len cap (lo.map a.eval) (hi.map a.eval) none).run P w' = .ok (l.toNat, h.toNat, cap) w' := by
  have hb : ∀ (x : Value) (k : IntKind) (n : Int) (y : Nat) (c : BoundsCode), x = .int k n → 0 ≤ n → n ≤ y → (Instr.sliceBound x y c).run P w' = .ok n.toNat w' := by
    intro x k n y c hx p1 p2
    subst hx
    simp [Instr.sliceBound, asIntOf, p1, p2]
  unfold Instr.sliceBounds
  rcases hh with ⟨rfl, rfl⟩ | ⟨B, kb, rfl, hB⟩
  · rcases hl with ⟨rfl, rfl⟩ | ⟨A, ka, rfl, hA⟩
    · simp
    · simp [hb _ ka l len .sliceB hA h0 (by omega)]
  · rcases hl with ⟨rfl, rfl⟩ | ⟨A, ka, rfl, hA⟩
    · simp [hb _ kb h cap _ hB (by omega) (by omega)]
    · simp [hb _ kb h cap _ hB (by omega) (by omega), hb _ ka l h.toNat .sliceB hA h0 (by omega)]

theorem sliceV_sound (hG : TyOk P G) (H : Here S a w F e) {T : TypeId} {A : Operand} {lo hi : Option Operand} {q : AV → Prop} {o : Oper} (ho : o.op = .slice T A lo hi none) (h : sliceV G S T (S.ev A) (lo.map S.ev) (hi.map S.ev) q) : Sound1 X P o a w F e q := by
  have hx := H.ev A
  unfold sliceV at h
  split at h
  case h_2 => exact h.elim
  rename_i ti ht
  split at h
  · rename_i s hu h1
    rw [h1] at hx
    have ex := hx.v_inv
    have hde := (hG.get ht).str hu
    obtain ⟨l, h, hl⟩ := boundV_inv H h
    obtain ⟨hh, h, hhi⟩ := boundV_inv H h
    obtain ⟨⟨h0, h1', h2⟩, hq⟩ := h
    refine ⟨_, _, hq, .v, fun w' _ => ?_⟩
    have := bounds_run (P := P) (isSlice := false) (len := s.size) (cap := s.size) (Nat.le_refl _) hl hhi h0 h1' h2 w'
    have hat : (Instr.sliceAt T (a.eval A) (lo.map a.eval) (hi.map a.eval) none).run P w' = .ok (.string (s.extract l.toNat hh.toNat)) w' := by
      simp [Instr.sliceAt, run_underlying hde, ex, Instr.slice, this]
    simp [execOp, ho, hat]
  · rename_i el xs hu h1
    rw [h1] at hx
    have hde := (hG.get ht).slice hu
    split at h
    case h_2 => exact h.elim
    rename_i te hte
    have ge := hG.get hte
    obtain ⟨hall, h⟩ := h
    obtain ⟨l, h, hl⟩ := boundV_inv H h
    obtain ⟨hh, h, hhi⟩ := boundV_inv H h
    obtain ⟨⟨h0, h1', h2⟩, hq⟩ := h
    generalize hX : a.eval A = X at hx
    cases hx with
    | @sl _ _ A' c sz ad vals hc hA hsz hone hcell hrep =>
      have := fun w' => bounds_run (P := P) (isSlice := true) (len := xs.length) (cap := c) hc hl hhi h0 h1' h2 w'
      have hlen : ((xs.take hh.toNat).drop l.toNat).length = hh.toNat - l.toNat := by
        rw [List.length_drop, List.length_take]; omega
      refine ⟨_, .slice (if c = l.toNat then A' else A'.map (·.add (l.toNat * te.size))) ((xs.take hh.toNat).drop l.toNat).length (c - l.toNat), hq, ?_, fun w' _ => ?_⟩
      · refine .sl sz (ad.add (l.toNat * te.size)) (fun i j => vals (l.toNat + i) j) (by rw [hlen]; omega) (fun hne => ?_) (fun i cs hi' => ?_) (fun i cs hi' => ?_) (fun i cs j s hi' hj => ?_) (fun i cs j s hi' hj => ?_)
        · have hxs : xs ≠ [] := by intro hh; subst hh; simp at hne
          obtain ⟨hA1, hA2, hA3⟩ := hA hxs
          have hpos : 0 < ((xs.take hh.toNat).drop l.toNat).length := List.length_pos_iff.2 hne
          rw [hlen] at hpos
          rw [if_neg (by omega), hA1]
          refine ⟨rfl, ?_, ?_⟩
          · rw [addr_add hA3]; exact hA2
          · rw [addr_add hA3]
        all_goals
          have hlt : l.toNat + i < hh.toNat := by
            have := (List.getElem?_eq_some_iff.1 hi').1
            rw [hlen] at this
            omega
          have hi2 : xs[l.toNat + i]? = some cs := by
            rw [List.getElem?_drop, List.getElem?_take_of_lt hlt] at hi'
            exact hi'
        · exact hsz _ _ hi2
        · exact hone _ _ hi2
        · have hxs : xs ≠ [] := by intro hh; subst hh; simp at hi2
          obtain ⟨hA1, hA2, hA3⟩ := hA hxs
          have hsz' : sz = te.size := by rw [← hsz _ _ hi2]; exact hall _ (List.mem_of_getElem? hi2)
          subst hsz'
          have := hcell _ cs j s hi2 hj
          rw [addr_add hA3]
          simp only
          rw [Nat.add_mul, ← Nat.add_assoc] at this
          exact this
        · exact hrep _ cs j s hi2 hj
      · have hat : (Instr.sliceAt T (.slice A' xs.length c) (lo.map a.eval) (hi.map a.eval) none).run P w' = .ok (.slice (if c = l.toNat then A' else A'.map (·.add (l.toNat * te.size))) (hh.toNat - l.toNat) (c - l.toNat)) w' := by
          simp [Instr.sliceAt, run_underlying hde, Instr.slice, ge.sizeOf w', this w']
        simp [execOp, ho, hX, hat, hlen]
  · rename_i el ob m hu h1
    rw [h1] at hx
    have hde := (hG.get ht).slice hu
    split at h
    case h_2 => exact h.elim
    rename_i te el' sz xs hte hob
    have ge := hG.get hte
    have hh := h.eqn
    clear h
    obtain ⟨hsz, ⟨⟨hm, hpos⟩, h⟩⟩ := hh
    obtain ⟨l, h, hl⟩ := boundV_inv H h
    obtain ⟨hh, h, hhi⟩ := boundV_inv H h
    obtain ⟨⟨h0, h1', h2⟩, hq⟩ := h
    obtain ⟨hrl, hown⟩ := H.heap.ob ob _ hob
    obtain ⟨_, hown⟩ := hown
    generalize hX : a.eval A = X at hx
    cases hx with
    | rowold _ hn => omega
    | @row _ _ _ A2 m2 c2 hlt hn hv2 =>
      rcases hown with ⟨hnil, _⟩ | ⟨b, c, vs, hv, hF, hb, hvs, hle, hmx, hrep⟩
      · subst hnil; simp at hm; omega
      · rw [hv] at hv2
        injection hv2 with e1 e2 e3
        subst e1 e2 e3
        refine ⟨_, .slice (some ⟨b, if c = l.toNat then 0 else l.toNat * sz, none⟩) (hh.toNat - l.toNat) (c - l.toNat), hq, .vw hlt hn hv (by omega) (by omega) (by omega) (fun h => if_neg (by omega)), fun w' _ => ?_⟩
        rw [hm] at hhi h2
        have hbr := bounds_run (P := P) (isSlice := true) (len := xs.length) (cap := c) hle hl hhi h0 h1' h2 w'
        have hat : (Instr.sliceAt T (.slice (some ⟨b, 0, none⟩) xs.length c) (lo.map a.eval) (hi.map a.eval) none).run P w' = .ok (.slice (if c = l.toNat then some ⟨b, 0, none⟩ else some ((⟨b, 0, none⟩ : Addr).add (l.toNat * te.size))) (hh.toNat - l.toNat) (c - l.toNat)) w' := by
          simp [Instr.sliceAt, run_underlying hde, Instr.slice, ge.sizeOf w', hbr]
        have e3 : (if c = l.toNat then some (⟨b, 0, none⟩ : Addr) else some ((⟨b, 0, none⟩ : Addr).add (l.toNat * te.size))) = some ⟨b, if c = l.toNat then 0 else l.toNat * sz, none⟩ := by
          rw [addr_add rfl, hsz]
          split <;> simp
        rw [e3] at hat
        simp [execOp, ho, hX, hat]
  · rename_i el ob m sz aa bb hu h1
    rw [h1] at hx
    have hde := (hG.get ht).slice hu
    split at h
    case h_2 => exact h.elim
    rename_i te el' sz' xs hte hob
    have ge := hG.get hte
    have hh := h.elim
    clear h
    obtain ⟨hz, ⟨hm, h⟩⟩ := hh
    simp only [Bool.and_eq_true] at hz
    have hsz := Nat.eq_of_beq_eq_true hz.1
    obtain ⟨l, h, hl⟩ := boundV_inv H h
    obtain ⟨hh, h, hhi⟩ := boundV_inv H h
    obtain ⟨⟨h0, h1', h2⟩, hq⟩ := h
    obtain ⟨hrl, hown⟩ := H.heap.ob ob _ hob
    obtain ⟨_, hown⟩ := hown
    generalize hX : a.eval A = X at hx
    cases hx with
    | vwold _ hn => omega
    | @vw _ _ _ _ _ _ b mm c off hlt hn hv hle hhi2 hpos hoff =>
      rcases hown with ⟨hnil, _⟩ | ⟨b', c', vs, hv', hF, hb, hvs, hcap, hmx, hrep⟩
      · subst hnil; simp at hm; omega
      · rw [hv] at hv'
        injection hv' with hv' hmm hcc
        subst hcc
        refine ⟨_, .slice (some ⟨b, if c - aa = l.toNat then off else off + l.toNat * te.size, none⟩) (aa + hh.toNat - (aa + l.toNat)) (c - (aa + l.toNat)), hq, .vw hlt hn hv (by omega) (by omega) hpos (fun h => by rw [if_neg (by omega), hoff (by omega), Nat.add_mul, hsz]), fun w' _ => ?_⟩
        have hbr : (Instr.sliceBounds true (bb - aa) (c - aa) (lo.map a.eval) (hi.map a.eval) none).run P w' = .ok (l.toNat, hh.toNat, c - aa) w' := by
          have hb : ∀ (x : Value) (k : IntKind) (n : Int) (y : Nat) (c : BoundsCode), x = .int k n → 0 ≤ n → n ≤ y → (Instr.sliceBound x y c).run P w' = .ok n.toNat w' := by
            intro x k n y c hx p1 p2
            subst hx
            simp [Instr.sliceBound, asIntOf, p1, p2]
          unfold Instr.sliceBounds
          rcases hhi with ⟨rfl, rfl⟩ | ⟨B, kb, rfl, hB⟩
          · rcases hl with ⟨rfl, rfl⟩ | ⟨A, ka, rfl, hA⟩
            · simp
            · simp [hb _ ka l (bb - aa) .sliceB hA h0 (by omega)]
          · rcases hl with ⟨rfl, rfl⟩ | ⟨A, ka, rfl, hA⟩
            · simp [hb _ kb hh (c - aa) _ hB (by omega) (by omega)]
            · simp [hb _ kb hh (c - aa) _ hB (by omega) (by omega), hb _ ka l hh.toNat .sliceB hA h0 (by omega)]
        have hat : (Instr.sliceAt T (.slice (some ⟨b, off, none⟩) (bb - aa) (c - aa)) (lo.map a.eval) (hi.map a.eval) none).run P w' = .ok (.slice (if c - aa = l.toNat then some ⟨b, off, none⟩ else some ((⟨b, off, none⟩ : Addr).add (l.toNat * te.size))) (hh.toNat - l.toNat) (c - aa - l.toNat)) w' := by
          simp [Instr.sliceAt, run_underlying hde, Instr.slice, ge.sizeOf w', hbr]
        have e3 : (if c - aa = l.toNat then some (⟨b, off, none⟩ : Addr) else some ((⟨b, off, none⟩ : Addr).add (l.toNat * te.size))) = some ⟨b, if c - aa = l.toNat then off else off + l.toNat * te.size, none⟩ := by
          rw [addr_add rfl]
          split <;> simp
        rw [e3] at hat
        have e4 : aa + hh.toNat - (aa + l.toNat) = hh.toNat - l.toNat := by omega
        have e5 : c - (aa + l.toNat) = c - aa - l.toNat := by omega
        rw [e4, e5]
        simp [execOp, ho, hX, hat]
  · rename_i len el ob m sz i off hu h1
    rw [h1] at hx
    have hde := (hG.get ht).arr hu
    split at h
    case h_2 => exact h.elim
    rename_i te sz' xs hte hob
    have ge := hG.get hte
    have hh := h.elim
    clear h
    obtain ⟨hz, ⟨⟨hm, hml, hpos⟩, h⟩⟩ := hh
    simp only [Bool.and_eq_true] at hz
    have z1 := Nat.eq_of_beq_eq_true hz.1.1.1
    have z2 := Nat.eq_of_beq_eq_true hz.1.1.2
    have z3 := Nat.eq_of_beq_eq_true hz.1.2
    have z4 := Nat.eq_of_beq_eq_true hz.2
    subst z3; subst z4; subst z2; subst hml
    obtain ⟨l, h, hl⟩ := boundV_inv H h
    obtain ⟨hh, h, hhi⟩ := boundV_inv H h
    obtain ⟨⟨h0, h1', h2⟩, hq⟩ := h
    obtain ⟨hrl, hszz, hsl⟩ := H.heap.ob ob _ hob
    generalize hX : a.eval A = X at hx
    cases hx with
    | rptrold _ hn => omega
    | @rptr _ _ _ _ _ _ b mm c hlo hn hv =>
      rw [hv] at hsl
      generalize hY : (Value.slice (some ⟨b, 0, none⟩) mm c) = Y at hsl
      cases hsl with
      | @sl _ _ A' c' sz3 ad vals hc hA hsz hone hcell hrep =>
        have hne : xs ≠ [] := by intro hh; subst hh; simp at hm; omega
        obtain ⟨hA1, hA2, hA3⟩ := hA hne
        injection hY with hY _ _
        rw [hA1] at hY
        injection hY with hY
        subst hY
        have := fun w' => bounds_run (P := P) (isSlice := false) (len := m) (cap := m) (Nat.le_refl _) hl hhi h0 h1' h2 w'
        have hlen : ((xs.take hh.toNat).drop l.toNat).length = hh.toNat - l.toNat := by
          rw [List.length_drop, List.length_take]; omega
        have hX' : a.eval A = .pointer (some ⟨b, 0, none⟩) := by rw [hX]; simp
        have hs3 : sz3 = sz' := by
          obtain ⟨x, hx⟩ : ∃ x, xs[0]? = some x := ⟨_, List.getElem?_eq_getElem (by omega)⟩
          rw [← hsz 0 x hx, hszz 0 x hx]
        subst hs3
        refine ⟨_, .slice (some (if m = l.toNat then ⟨b, 0, none⟩ else (⟨b, 0, none⟩ : Addr).add (l.toNat * te.size))) ((xs.take hh.toNat).drop l.toNat).length (m - l.toNat), hq, ?_, fun w' _ => ?_⟩
        · refine .sl sz3 ((⟨b, 0, none⟩ : Addr).add (l.toNat * sz3)) (fun i j => vals (l.toNat + i) j) (by rw [hlen]; omega) (fun hne => ?_) (fun i cs hi' => ?_) (fun i cs hi' => ?_) (fun i cs j s hi' hj => ?_) (fun i cs j s hi' hj => ?_)
          · have hpos : 0 < ((xs.take hh.toNat).drop l.toNat).length := List.length_pos_iff.2 hne
            rw [hlen] at hpos
            rw [if_neg (by omega)]
            refine ⟨by rw [← z1], ?_, ?_⟩
            · rw [addr_add rfl]; exact hA2
            · rw [addr_add rfl]
          all_goals
            have hlt : l.toNat + i < hh.toNat := by
              have := (List.getElem?_eq_some_iff.1 hi').1
              rw [hlen] at this
              omega
            have hi2 : xs[l.toNat + i]? = some cs := by
              rw [List.getElem?_drop, List.getElem?_take_of_lt hlt] at hi'
              exact hi'
          · exact hsz _ _ hi2
          · exact hone _ _ hi2
          · have := hcell _ cs j s hi2 hj
            rw [addr_add rfl]
            simp only
            rw [Nat.add_mul, ← Nat.add_assoc] at this
            exact this
          · exact hrep _ cs j s hi2 hj
        · have hat : (Instr.sliceAt T (.pointer (some ⟨b, 0, none⟩)) (lo.map a.eval) (hi.map a.eval) none).run P w' = .ok (.slice (some (if m = l.toNat then ⟨b, 0, none⟩ else (⟨b, 0, none⟩ : Addr).add (l.toNat * te.size))) (hh.toNat - l.toNat) (m - l.toNat)) w' := by
            simp [Instr.sliceAt, run_underlying hde, Instr.sureAddr, ge.sizeOf w', this w']
          simp [execOp, ho, hX', hat, hlen]
  · exact h.elim


theorem slice3V_sound (hG : TyOk P G) (H : Here S a w F e) {T : TypeId} {A M : Operand} {lo hi : Option Operand} {q : AV → Prop} {o : Oper} (ho : o.op = .slice T A lo hi (some M)) (h : slice3V G S T (S.ev A) (lo.map S.ev) (hi.map S.ev) (S.ev M) q) : Sound1 X P o a w F e q := by
  have hx := H.ev A
  have hM := H.ev M
  unfold slice3V at h
  split at h
  case h_2 => exact h.elim
  rename_i ti ht
  split at h
  case h_2 => exact h.elim
  rename_i el ob m k mx hu h1 h2
  rw [h1] at hx
  rw [h2] at hM
  have eM := hM.v_inv
  have hde := (hG.get ht).slice hu
  split at h
  case h_2 => exact h.elim
  rename_i te el' sz xs hte hob
  have ge := hG.get hte
  obtain ⟨hm, h⟩ := h
  obtain ⟨l, h, hl⟩ := boundV_inv H h
  obtain ⟨hh, h, hhi⟩ := boundV_inv H h
  obtain ⟨⟨hne, h0, h1', h2', h3⟩, hq⟩ := h
  obtain ⟨hrl, hown⟩ := H.heap.ob ob _ hob
  obtain ⟨_, hown⟩ := hown
  obtain ⟨B, kb, hBe, hB⟩ : ∃ B k, hi = some B ∧ a.eval B = .int k hh := by
    rcases hhi with ⟨rfl, _⟩ | h
    · simp at hne
    · exact h
  subst hBe
  generalize hX : a.eval A = X at hx
  cases hx with
  | rowold _ hn => omega
  | @row _ _ _ A2 m2 c2 hlt hn hv2 =>
    have hcap : ∃ n2 : Nat, m2 = n2 ∧ m = m2 ∧ m ≤ c2 := by
      rcases hown with ⟨hnil, hv⟩ | ⟨b, c, vs, hv, hF, hb, hvs, hle, hmx, hrep⟩
      · rw [hv] at hv2
        injection hv2 with e1 e2 e3
        subst e1 e2 e3 hnil
        simp at hm
        exact ⟨0, rfl, hm, by omega⟩
      · rw [hv] at hv2
        injection hv2 with e1 e2 e3
        subst e1 e2 e3
        exact ⟨_, rfl, hm, by omega⟩
    obtain ⟨_, _, hmm, hle⟩ := hcap
    refine ⟨_, .slice (if mx.toNat = l.toNat then A2 else A2.map (·.add (l.toNat * te.size))) (hh.toNat - l.toNat) (mx.toNat - l.toNat), hq, .dead, fun w' _ => ?_⟩
    have hb : ∀ (x : Value) (k : IntKind) (n : Int) (y : Nat) (c : BoundsCode), x = .int k n → 0 ≤ n → n ≤ y → (Instr.sliceBound x y c).run P w' = .ok n.toNat w' := by
      intro x k n y c hx p1 p2
      subst hx
      simp [Instr.sliceBound, asIntOf, p1, p2]
    have hbr : (Instr.sliceBounds true m2 c2 (lo.map a.eval) (some (a.eval B)) (some (a.eval M))).run P w' = .ok (l.toNat, hh.toNat, mx.toNat) w' := by
      unfold Instr.sliceBounds
      rcases hl with ⟨rfl, rfl⟩ | ⟨L, ka, rfl, hA⟩
      · simp [hb _ k mx c2 _ eM (by omega) (by omega), hb _ kb hh mx.toNat _ hB (by omega) (by omega)]
      · simp [hb _ k mx c2 _ eM (by omega) (by omega), hb _ kb hh mx.toNat _ hB (by omega) (by omega), hb _ ka l hh.toNat _ hA h0 (by omega)]
    have hat : (Instr.sliceAt T (.slice A2 m2 c2) (lo.map a.eval) (some (a.eval B)) (some (a.eval M))).run P w' = .ok (.slice (if mx.toNat = l.toNat then A2 else A2.map (·.add (l.toNat * te.size))) (hh.toNat - l.toNat) (mx.toNat - l.toNat)) w' := by
      simp [Instr.sliceAt, run_underlying hde, Instr.slice, ge.sizeOf w', hbr]
    simp [execOp, ho, hX, hat]

theorem lenV_sound (hG : TyOk P G) (H : Here S a w F e) {T : TypeId} {A : Operand} {q : AV → Prop} {o : Oper} (ho : o.op = .call { callee := .builtin .len, args := #[A], argTypes := #[T] }) (h : lenV G S T (S.ev A) q) : Sound1 X P o a w F e q := by
  have hx := H.ev A
  have fin : ∀ (n : Nat), (∀ w', (Builtin.len_ #[T] o.type #[a.eval A]).run P w' = .ok (goInt n) w') → Yields1 X P o a w (.int .i64 n) := by
    intro n hr w' _
    simp [execOp, ho, resolve, invoke, builtin, hr w', goInt]
  unfold lenV at h
  split at h
  case h_2 => exact h.elim
  rename_i ti ht
  split at h
  · rename_i s hu h1
    rw [h1] at hx
    have hde := (hG.get ht).str hu
    exact ⟨_, _, h, .v, fin _ fun w' => by simp [Builtin.len_, run_underlying hde, hx.v_inv]⟩
  · rename_i el xs hu h1
    rw [h1] at hx
    have hde := (hG.get ht).slice hu
    obtain ⟨A', c, ex, _⟩ := hx.sl_inv
    exact ⟨_, _, h, .v, fin _ fun w' => by simp [Builtin.len_, run_underlying hde, ex]⟩
  · rename_i el ob n hu h1
    rw [h1] at hx
    have hde := (hG.get ht).slice hu
    split at h
    case h_3 => exact h.elim
    · rename_i el' sz xs hob
      obtain ⟨hn, h⟩ := h
      obtain ⟨hrl, hown⟩ := H.heap.ob ob _ hob
      obtain ⟨_, hown⟩ := hown
      generalize hX : a.eval A = X at hx
      cases hx with
      | rowold _ hn => omega
      | @row _ _ _ A2 m2 c2 hl hn hv2 =>
        replace hX := hX.trans hv2.symm
        rw [hn] at h
        rcases hown with ⟨hnil, hv⟩ | ⟨b, c, vs, hv, _⟩
        · refine ⟨_, _, h, .v, fin _ fun w' => ?_⟩
          rw [hX, hv, hrl, hnil]; simp [Builtin.len_, run_underlying hde]
        · refine ⟨_, _, h, .v, fin _ fun w' => ?_⟩
          rw [hX, hv, hrl]; simp [Builtin.len_, run_underlying hde]
    · rename_i sz xs hob
      obtain ⟨hn, h⟩ := h
      obtain ⟨hrl, _, hsl⟩ := H.heap.ob ob _ hob
      generalize hX : a.eval A = X at hx
      cases hx with
      | rowold _ hn => omega
      | @row _ _ _ A2 m2 c2 hl hn hv2 =>
        replace hX := hX.trans hv2.symm
        rw [hn] at h
        obtain ⟨A', c, ex, _⟩ := hsl.sl_inv
        refine ⟨_, _, h, .v, fin _ fun w' => ?_⟩
        rw [hX, ex, hrl]; simp [Builtin.len_, run_underlying hde]
  · rename_i el hu h1
    rw [h1] at hx
    have hde := (hG.get ht).slice hu
    exact ⟨_, _, h, .v, fin 0 fun w' => by simp [Builtin.len_, run_underlying hde, hx.v_inv]⟩
  · rename_i el ob n sz lo hi hu h1
    rw [h1] at hx
    have hde := (hG.get ht).slice hu
    split at h
    case h_2 => exact h.elim
    rename_i el' sz' xs hob
    obtain ⟨hn, h⟩ := h
    obtain ⟨hrl, hown⟩ := H.heap.ob ob _ hob
    generalize hX : a.eval A = X at hx
    cases hx with
    | vwold _ hn => omega
    | vw hl hn hv hle hhi hpos hoff =>
      refine ⟨_, _, h, .v, fin (hi - lo) fun w' => ?_⟩
      rw [hX]; simp [Builtin.len_, run_underlying hde]
  · exact h.elim

theorem minmaxV_sound (H : Here S a w F e) {mx : Bool} {A B : Operand} {ts : Array TypeId} {q : AV → Prop} {o : Oper} (ho : o.op = .call { callee := .builtin (if mx then .max else .min), args := #[A, B], argTypes := ts }) (h : minmaxV mx (S.ev A) (S.ev B) q) : Sound1 X P o a w F e q := by
  have hx := H.ev A
  have hy := H.ev B
  unfold minmaxV at h
  split at h
  case h_2 => exact h.elim
  rename_i k m k' n h1 h2
  rw [h1] at hx; rw [h2] at hy
  refine ⟨_, _, h, .v, fun w' _ => ?_⟩
  cases mx
  · simp [execOp, ho, resolve, invoke, builtin, hx.v_inv, hy.v_inv, Builtin.min_, Builtin.min2]
  · simp [execOp, ho, resolve, invoke, builtin, hx.v_inv, hy.v_inv, Builtin.max_, Builtin.max2]

theorem conv_bytes {T dst el : TypeId} {ti td te : TI} (g1 : P.underlying T = some (.slice el)) (g2 : P.underlying el = some (.int .u8)) (g3 : P.underlying dst = some .string) {b off m c : Nat} {l : List Int} (hm : m = l.length)
    (hcell : ∀ (i : Nat) n, l[i]? = some n → w.cell? ⟨b, off + i, none⟩ = some (.int .u8 n)) (hX : ∀ b, ¬ X b) (w' : World) (hw : Agree X w w') :
    (convert T dst (.slice (some ⟨b, off, none⟩) m c)).run P w' = .ok (.string (ofInts l)) w' := by
  rw [run_convert_bytes_string w' T dst el _ _ _ g1 g2 g3]
  refine run_bytesToString w' _ m c l ?_
  rw [hm, ← List.length_map (f := Value.int .u8)]
  refine run_loadCells_list w' _ _ (fun j v hj => ?_)
  rw [List.getElem?_map] at hj
  cases hg : l[j]? with
  | none => rw [hg] at hj; cases hj
  | some n =>
    rw [hg] at hj
    injection hj with hj
    subst hj
    have := hw.cell (hX _) (hcell j n hg)
    rw [show (⟨b, off, none⟩ : Addr).add j = ⟨b, off + j, none⟩ from addr_add rfl j]
    exact this
theorem convV_sound (hG : TyOk P G) (H : Here S a w F e) {s d : TypeId} {A : Operand} {q : AV → Prop} {o : Oper} (ho : o.op = .convert s d A) (hok : XOk X F e S o.op) (h : convV G S s d (S.ev A) q) : Sound1 X P o a w F e q := by
  have hx := H.ev A
  unfold convV at h
  split at h
  case h_2 => exact h.elim
  rename_i ts td hs hd
  obtain ⟨ds, hds, _⟩ := (hG.get hs).und
  split at h
  · rename_i k k' n hu h1
    rw [h1] at hx
    have hde := (hG.get hd).int hu
    refine ⟨_, _, h, .v, fun w' _ => ?_⟩
    simp [execOp, ho, convert, run_underlying hds, run_underlying hde, hx.v_inv, Conv.intToInt]
  · rename_i z hu h1
    rw [h1] at hx
    have hde := (hG.get hd).str hu
    refine ⟨_, _, h, .v, fun w' _ => ?_⟩
    cases ds <;> simp [execOp, ho, convert, run_underlying hds, run_underlying hde, hx.v_inv]
  · rename_i x hu hno
    have hde := (hG.get hd).str hu
    split at h
    case h_2 => exact h.elim
    rename_i el hsl
    have hse := (hG.get hs).slice hsl
    split at h
    case h_2 => exact h.elim
    rename_i te hte
    split at h
    case h_2 => exact h.elim
    rename_i hu8
    have hee := (hG.get hte).int hu8
    have fin : ∀ (b off m c : Nat) (l : List Int), a.eval A = .slice (some ⟨b, off, none⟩) m c → m = l.length → (∀ (i : Nat) n, l[i]? = some n → w.cell? ⟨b, off + i, none⟩ = some (.int .u8 n)) → (∀ b, ¬ X b) → Yields1 X P o a w (.string (ofInts l)) := by
      intro b off m c l hA hm hcell hX w' hw
      have := conv_bytes (ti := ts) (td := td) (te := te) hse hee hde (c := c) hm hcell hX w' hw
      simp [execOp, ho, hA, this]
    have nil : ∀ (m c : Nat), a.eval A = .slice none m c → Yields1 X P o a w (.string (ofInts [])) := by
      intro m c hA w' hw
      have := run_convert_bytes_string w' s d el none m c hse hee hde
      simp [execOp, ho, hA, this, Conv.bytesToString, ofInts]
    have hX : (∀ v, S.ev A ≠ .v v) → ∀ b, ¬ X b := fun hn => by
      rcases hok.cnv _ _ _ ho with ⟨v, hv⟩ | h
      · exact absurd hv (hn v)
      · exact h
    unfold bytesV at h
    split at h
    · rename_i xs h1
      obtain ⟨l, hl, h⟩ := h.out
      have hXb := hX (fun v hv => by rw [h1] at hv; cases hv)
      rw [h1] at hx
      generalize hAe : a.eval A = y at hx
      cases hx with
      | @sl _ _ A' c sz ad vals hc hA hsz hone hcell hrep =>
        by_cases hne : xs = []
        · subst hne
          have : l = [] := by cases l with | nil => rfl | cons x r => cases hl
          subst this
          cases A' with
          | none => exact ⟨_, _, h, .v, nil _ _ hAe⟩
          | some ad' =>
            refine ⟨_, _, h, .v, fun w' hw => ?_⟩
            have e1 := run_convert_bytes_string w' s d el (some ad') 0 c hse hee hde
            have e2 := run_bytesToString (P := P) w' ad' 0 c [] (run_loadCells_list w' ad' [] (fun j v hj => by simp at hj))
            simp [execOp, ho, hAe, e1, e2, ofInts]
        · obtain ⟨rfl, hF, hsp⟩ := hA hne
          have had : ad = ⟨ad.block, ad.off, none⟩ := by cases ad; simp_all
          have h1sz : sz = 1 := by
            cases l with
            | nil => exact absurd hl hne
            | cons n r2 => exact (hsz 0 [.v (.int .u8 n)] (by rw [hl]; rfl)).symm
          subst h1sz
          refine ⟨_, _, h, .v, fin ad.block ad.off xs.length c l (by rw [hAe, ← had]) (by rw [hl]; simp) (fun i n hi => ?_) hXb⟩
          have hxi : xs[i]? = some [.v (.int .u8 n)] := by rw [hl, List.getElem?_map, hi]; rfl
          have c1 := hcell i _ 0 _ hxi rfl
          have c2 := (hrep i _ 0 _ hxi rfl).v_inv
          rw [c2] at c1
          simpa using c1
    · rename_i ob n h1
      have hXb := hX (fun v hv => by rw [h1] at hv; cases hv)
      rw [h1] at hx
      generalize hAe : a.eval A = y at hx
      split at h
      · rename_i el' sz xs hob
        obtain ⟨hsz1, h⟩ := h.elim
        have hsz1 := Nat.eq_of_beq_eq_true hsz1
        subst hsz1
        obtain ⟨hn, h⟩ := h
        obtain ⟨l, hl, h⟩ := h.out
        obtain ⟨hrl, hsz, hown⟩ := H.heap.ob ob _ hob
        cases hx with
        | rowold _ hn' => omega
        | @row _ _ _ A' m c hlt hn' hv =>
          rcases hown with ⟨hnil, hv'⟩ | ⟨b', c', vs, hv', hF, hb, hvs, hle, hmx, hrep⟩
          · rw [hv] at hv'
            injection hv' with e1 e2 e3
            subst e1
            have : l = [] := by rw [hnil] at hl; cases l with | nil => rfl | cons x r => cases hl
            subst this
            exact ⟨_, _, h, .v, nil _ _ hAe⟩
          · rw [hv] at hv'
            injection hv' with e1 e2 e3
            subst e1; subst e2
            refine ⟨_, _, h, .v, fin b' 0 _ c l hAe (by rw [hl]; simp) (fun i k hi => ?_) hXb⟩
            have hxi : xs[i]? = some [.v (.int .u8 k)] := by rw [hl, List.getElem?_map, hi]; rfl
            obtain ⟨y, hy, hyr⟩ := hrep i _ 0 _ hxi rfl
            rw [hyr.v_inv] at hy
            rw [cell_of_row w _ _ vs el' _ hb]
            simpa using hy
      · rename_i sz xs hob
        obtain ⟨hsz1, h⟩ := h.elim
        have hsz1 := Nat.eq_of_beq_eq_true hsz1
        subst hsz1
        obtain ⟨hn, h⟩ := h
        obtain ⟨l, hl, h⟩ := h.out
        obtain ⟨hrl, hsz, hsl⟩ := H.heap.ob ob _ hob
        cases hx with
        | rowold _ hn' => omega
        | @row _ _ _ A' m c hlt hn' hv =>
          rw [hv] at hsl
          cases hsl with
          | @sl _ _ _ _ sz2 ad vals hc hA hsz2 hone hcell hrep =>
            by_cases hne : xs = []
            · subst hne
              have : l = [] := by cases l with | nil => rfl | cons x r => cases hl
              subst this
              cases A' with
              | none => exact ⟨_, _, h, .v, nil _ _ hAe⟩
              | some ad' =>
                refine ⟨_, _, h, .v, fun w' hw => ?_⟩
                have e1 := run_convert_bytes_string w' s d el (some ad') 0 c hse hee hde
                have e2 := run_bytesToString (P := P) w' ad' 0 c [] (run_loadCells_list w' ad' [] (fun j v hj => by simp at hj))
                simp only [List.length_nil] at hAe
                simp [execOp, ho, hAe, e1, e2, ofInts]
            · obtain ⟨rfl, hF, hsp⟩ := hA hne
              have had : ad = ⟨ad.block, ad.off, none⟩ := by cases ad; simp_all
              have h1sz : sz2 = 1 := by
                cases hxs : xs with
                | nil => exact absurd hxs hne
                | cons x r =>
                  have a1 := hsz2 0 x (by rw [hxs]; rfl)
                  have a2 := hsz 0 x (by rw [hxs]; rfl)
                  omega
              subst h1sz
              refine ⟨_, _, h, .v, fin ad.block ad.off xs.length c l (by rw [hAe, ← had]) (by rw [hl]; simp) (fun i n hi => ?_) hXb⟩
              have hxi : xs[i]? = some [.v (.int .u8 n)] := by rw [hl, List.getElem?_map, hi]; rfl
              have c1 := hcell i _ 0 _ hxi rfl
              have c2 := (hrep i _ 0 _ hxi rfl).v_inv
              rw [c2] at c1
              simpa using c1
      · exact h.elim
    · rename_i ob n sz lo hi h1
      have hXb := hX (fun v hv => by rw [h1] at hv; cases hv)
      rw [h1] at hx
      generalize hAe : a.eval A = y at hx
      split at h
      case h_2 => exact h.elim
      rename_i el' sz' xs hob
      obtain ⟨hsz1, h⟩ := h.elim
      rw [Bool.and_eq_true] at hsz1
      have e1 := Nat.eq_of_beq_eq_true hsz1.1
      have e2 := Nat.eq_of_beq_eq_true hsz1.2
      subst e1; subst e2
      obtain ⟨hn, h⟩ := h
      obtain ⟨l, hl, h⟩ := h.out
      obtain ⟨hrl, hsz, hown⟩ := H.heap.ob ob _ hob
      cases hx with
      | vwold _ hn' => omega
      | @vw _ _ _ _ _ _ b m c off hlt hn' hv hle hhi h0 hoff =>
        rcases hown with ⟨hnil, hv'⟩ | ⟨b', c', vs, hv', hF, hb, hvs, hle2, hmx, hrep⟩
        · subst hnil; simp at hn; omega
        · rw [hv] at hv'
          injection hv' with e1 e2 e3
          injection e1 with e1
          injection e1 with e1 _ _
          subst e1; subst e3
          have hll : l.length = hi - lo := by
            have := congrArg List.length hl
            simp at this
            omega
          refine ⟨_, _, h, .v, fin _ off _ _ l hAe hll.symm (fun i k hi' => ?_) hXb⟩
          have hil : i < l.length := (List.getElem?_eq_some_iff.1 hi').1
          have hxi : ((xs.take hi).drop lo)[i]? = some [.v (.int .u8 k)] := by rw [hl, List.getElem?_map, hi']; rfl
          rw [List.getElem?_drop, List.getElem?_take_of_lt (by omega)] at hxi
          obtain ⟨y, hy, hyr⟩ := hrep (lo + i) _ 0 _ hxi rfl
          rw [hyr.v_inv] at hy
          rw [cell_of_row w _ _ vs el' _ hb, hoff (by omega)]
          simpa using hy
    · exact h.elim
  · exact h.elim


/-- Cells that are held. -/
def RepCells (w : World) (F : Nat → Prop) (e : Env) (cs : List AV) (vs : Array Value) : Prop := vs.size = cs.length ∧ ∀ (j : Nat) s, cs[j]? = some s → Rep w F e s (vs.getD j undef)

theorem one_value {s : AV} {x : Value} (h : s.one = true) (hx : Rep w F e s x) : x.oneCell' = true := by
  cases hx <;> simp_all [AV.one, Value.oneCell']

theorem cells_one {x : Value} (h : x.oneCell' = true) : x.cells = #[x] := by
  cases x <;> simp_all [Value.oneCell', Value.cells]

theorem cellsB_sound {s : AV} {cs : List AV} (h : cellsB s = some cs) {x : Value} (hx : Rep w F e s x) : RepCells w F e cs x.cells := by
  cases s <;> simp only [cellsB] at h
  case agg cs' =>
    injection h with h; subst h
    obtain ⟨vs, rfl, h1, h2⟩ := hx.agg_inv
    exact ⟨h1, h2⟩
  all_goals
    split at h
    · rename_i h1
      injection h with h; subst h
      rw [cells_one (one_value h1 hx)]
      refine ⟨rfl, fun j s hj => ?_⟩
      cases j with
      | zero => simp at hj; subst hj; simpa using hx
      | succ j => simp at hj
    · cases h

theorem RepCells.set {cs : List AV} {vs : Array Value} (h : RepCells w F e cs vs) {s : AV} {x : Value} (hx : Rep w F e s x) (k : Nat) : RepCells w F e (cs.set k s) (vs.setIfInBounds k x) := by
  refine ⟨by simp [h.1], fun j t hj => ?_⟩
  rw [List.getElem?_set] at hj
  rw [Array.getD_eq_getD_getElem?, Array.getElem?_setIfInBounds]
  split at hj
  · rename_i hkj
    subst hkj
    split at hj
    · injection hj with hj; subst hj
      rw [if_pos rfl, if_pos (by have := h.1; omega)]
      exact hx
    · cases hj
  · rename_i hkj
    rw [if_neg hkj, ← Array.getD_eq_getD_getElem?]
    exact h.2 j t hj

theorem putCells_sound (off : Nat) : ∀ (ys : List AV) (us : List Value) (j : Nat) (cs : List AV) (vs : Array Value), us.length = ys.length → (∀ (i : Nat) s, ys[i]? = some s → Rep w F e s (us.getD i undef)) → RepCells w F e cs vs →
    RepCells w F e (putCells cs (off + j) ys) ((us.zipIdx j).foldl (fun c p => c.setIfInBounds (off + p.2) p.1) vs) := by
  intro ys
  induction ys with
  | nil =>
    intro us j cs vs hl hr h
    cases us with
    | nil => simpa [putCells] using h
    | cons u r => simp at hl
  | cons y ys ih =>
    intro us j cs vs hl hr h
    cases us with
    | nil => simp at hl
    | cons u r =>
      have h1 := hr 0 y (by simp)
      simp at h1
      have := ih r (j + 1) (cs.set (off + j) y) (vs.setIfInBounds (off + j) u) (by simpa using hl) (fun i s hi => by
        have := hr (i + 1) s (by simpa using hi)
        simpa using this) (h.set h1 _)
      simpa [putCells, Nat.add_assoc] using this

theorem putCells_length (ys : List AV) : ∀ (cs : List AV) (off : Nat), (putCells cs off ys).length = cs.length := by
  induction ys with
  | nil => intro cs off; rfl
  | cons y ys ih => intro cs off; simp [putCells, ih]

theorem fill_sound (hG : TyOk P G) (H : Here S a w F e) {fs : List (Nat × TypeId)} {place : Nat → Option (Nat × Nat)} (hp : ∀ (i : Nat) off ft tf, fs[i]? = some (off, ft) → ty G ft = some tf → place i = some (off, tf.size)) :
    ∀ (parts : List (Nat × Operand)) (cs : List AV) (vs : Array Value) (r : List AV), RepCells w F e cs vs → buildV G S fs cs parts = some r →
      ∃ us, Instr.fill place vs (parts.map fun p => (p.1, a.eval p.2)) = some us ∧ RepCells w F e r us := by
  intro parts
  induction parts with
  | nil =>
    intro cs vs r h hb
    simp only [buildV] at hb
    injection hb with hb; subst hb
    exact ⟨vs, rfl, h⟩
  | cons p rest ih =>
    intro cs vs r h hb
    obtain ⟨i, x⟩ := p
    simp only [buildV] at hb
    split at hb
    · cases hb
    rename_i off ft hf
    split at hb
    · cases hb
    rename_i tf htf
    split at hb
    · cases hb
    rename_i ys hys
    split at hb
    case h_2 => cases hb
    rename_i hle
    simp only [Bool.and_eq_true] at hle
    replace hle := And.intro (Nat.eq_of_beq_eq_true hle.1) (Nat.le_of_ble_eq_true hle.2)
    have hc := cellsB_sound hys (H.ev x)
    have hput := putCells_sound (w := w) (F := F) (e := e) off ys (a.eval x).cells.toList 0 cs vs (by rw [Array.length_toList]; exact hc.1) (fun j s hj => by
      have := hc.2 j s hj
      have hlt : j < (a.eval x).cells.size := by rw [hc.1]; exact (List.getElem?_eq_some_iff.1 hj).1
      simpa [List.getD_eq_getElem?_getD, Array.getD_eq_getD_getElem?, Array.getElem?_eq_getElem hlt] using this) h
    obtain ⟨us, hu, hr⟩ := ih _ _ r hput hb
    refine ⟨us, ?_, hr⟩
    simp only [List.map_cons, Instr.fill, hp i off ft tf hf htf]
    have q1 := hc.1
    have q2 := h.1
    rw [if_neg (by simp only [Bool.or_eq_true, decide_eq_true_eq, not_or]; constructor <;> omega)]
    rw [← hu, ← Array.foldl_toList, Array.toList_zipIdx]

theorem mapM_places (fs : List Field) (h : ∀ f ∈ fs, ∃ i, P.info? f.type = some i) :
    ∃ places, fs.mapM (fun f => (P.info? f.type).map fun i => (f.offset, i.size)) = some places ∧ ∀ (i : Nat) f, fs[i]? = some f → ∃ inf, P.info? f.type = some inf ∧ places[i]? = some (f.offset, inf.size) := by
  induction fs with
  | nil => exact ⟨[], rfl, fun i f hf => by simp at hf⟩
  | cons f fs ih =>
    obtain ⟨inf, hi⟩ := h f (List.mem_cons_self ..)
    obtain ⟨pl, hpl, hp⟩ := ih fun g hg => h g (List.mem_cons_of_mem _ hg)
    refine ⟨(f.offset, inf.size) :: pl, by simp [List.mapM_cons, hi, hpl], fun i g hg => ?_⟩
    cases i with
    | zero => simp at hg; subst hg; exact ⟨inf, hi, rfl⟩
    | succ i => simpa using hp i g (by simpa using hg)

theorem build_sound (hG : TyOk P G) (H : Here S a w F e) {T : TypeId} {ti : TI} (ht : ty G T = some ti) {fs : List (Nat × TypeId)} (hu : ti.u = .struct fs) {parts : Array (Nat × Operand)} {cs : List AV} {q : AV → Prop} {o : Oper}
    (ho : o.op = .build T parts) (hb : buildV G S fs (ti.zero.map .v) parts.toList = some cs) (h : q (.agg cs)) : Sound1 X P o a w F e q := by
  have g := hG.get ht
  obtain ⟨gs, hde, hfs, _⟩ := g.struct hu
  obtain ⟨it, hit, hsz, _, z, hz, hzc⟩ := g.info
  obtain ⟨places, hpl, hpp⟩ := mapM_places (P := P) gs.toList (fun f hf => by
    have := g.kids fs hu (f.offset, f.type) (by rw [hfs]; exact List.mem_map.2 ⟨f, hf, rfl⟩)
    exact this)
  have hz0 : RepCells w F e (ti.zero.map .v) z.cells := by
    rw [← hzc]
    refine ⟨by simp, fun j s hj => ?_⟩
    rw [List.getElem?_map] at hj
    cases hv : z.cells.toList[j]? with
    | none => rw [hv] at hj; cases hj
    | some y =>
      rw [hv] at hj
      simp at hj
      subst hj
      have hv' : z.cells[j]? = some y := by simpa using hv
      rw [Array.getD_eq_getD_getElem?, hv']
      exact .v
  obtain ⟨us, hus, hr⟩ := fill_sound hG H (place := (places.toArray[·]?)) (fs := fs) (fun i off ft tf hf htf => by
    rw [hfs, List.getElem?_map] at hf
    cases hg : gs.toList[i]? with
    | none => rw [hg] at hf; cases hf
    | some fd =>
      rw [hg] at hf
      simp at hf
      obtain ⟨inf, h1, h2⟩ := hpp i fd hg
      obtain ⟨i2, h3, h4, _⟩ := (hG.get htf).info
      rw [← hf.2, h1] at h3
      injection h3 with h3
      subst h3
      rw [List.getElem?_toArray, h2, hf.1, h4]) parts.toList _ _ cs hz0 hb
  refine ⟨_, .agg us, h, .agg hr.1 hr.2, fun w' _ => ?_⟩
  have hbl : P.built T (parts.map fun p => (p.1, a.eval p.2)).toList = some us := by
    unfold Program.built
    simp only [hit, hde, hz, hpl]
    rw [← hus]
    simp
  have := run_build (P := P) w' T (parts.map fun p => (p.1, a.eval p.2)) us hbl
  simp [execOp, ho, this]

theorem buildA_sound (hG : TyOk P G) (H : Here S a w F e) {T : TypeId} {ti : TI} (ht : ty G T = some ti) {len : Nat} {el : TypeId} {te : TI} (hte : ty G el = some te) (hu : ti.u = .array len el) {parts : Array (Nat × Operand)} {cs : List AV} {q : AV → Prop} {o : Oper}
    (ho : o.op = .build T parts) (hb : buildV G S ((List.range len).map fun i => (i * te.size, el)) (ti.zero.map .v) parts.toList = some cs) (h : q (.agg cs)) : Sound1 X P o a w F e q := by
  have g := hG.get ht
  have hde := g.arr hu
  obtain ⟨it, hit, hsz, _, z, hz, hzc⟩ := g.info
  obtain ⟨i2, h3, h4, _⟩ := (hG.get hte).info
  have hz0 : RepCells w F e (ti.zero.map .v) z.cells := by
    rw [← hzc]
    refine ⟨by simp, fun j s hj => ?_⟩
    rw [List.getElem?_map] at hj
    cases hv : z.cells.toList[j]? with
    | none => rw [hv] at hj; cases hj
    | some y =>
      rw [hv] at hj
      simp at hj
      subst hj
      have hv' : z.cells[j]? = some y := by simpa using hv
      rw [Array.getD_eq_getD_getElem?, hv']
      exact .v
  obtain ⟨us, hus, hr⟩ := fill_sound hG H (place := fun i => some (i * te.size, te.size)) (fs := (List.range len).map fun i => (i * te.size, el)) (fun i off ft tf hf htf => by
    rw [List.getElem?_map] at hf
    cases hg : (List.range len)[i]? with
    | none => rw [hg] at hf; cases hf
    | some k =>
      rw [hg] at hf
      have hk := (List.getElem?_eq_some_iff.1 hg).2
      simp at hk
      simp at hf
      obtain ⟨rfl, rfl⟩ := hf
      rw [hte] at htf
      injection htf with htf
      rw [htf, hk]) parts.toList _ _ cs hz0 hb
  refine ⟨_, .agg us, h, .agg hr.1 hr.2, fun w' _ => ?_⟩
  have hbl : P.built T (parts.map fun p => (p.1, a.eval p.2)).toList = some us := by
    unfold Program.built
    simp only [hit, hde, hz, h3, h4]
    rw [← hus]
    simp
  have := run_build (P := P) w' T (parts.map fun p => (p.1, a.eval p.2)) us hbl
  simp [execOp, ho, this]

theorem valOp_sound (hG : TyOk P G) (H : Here S a w F e) (o : Oper) (q : AV → Prop) (hok : XOk X F e S o.op) (h : valOp G S o.op q) : Sound1 X P o a w F e q := by
  cases ho : o.op <;> rw [ho] at h <;> simp only [valOp] at h
  case move x => exact ⟨_, _, h, H.ev x, fun w' _ => by simp [execOp, ho]⟩
  case assign x => exact ⟨_, _, h, H.ev x, fun w' _ => by simp [execOp, ho]⟩
  case nilCheck x =>
    have hx := H.ev x
    unfold nilV at h
    split at h
    · rename_i ob off h1
      rw [h1] at hx
      obtain ⟨hl, ex⟩ := hx.ptr_inv
      exact ⟨_, _, h, hx, fun w' _ => by simp [execOp, ho, ex]⟩
    · rename_i cs h1
      rw [h1] at hx
      obtain ⟨ad, vals, ex, hF, hsp, hcell, hrep⟩ := hx.eptr_inv
      exact ⟨_, _, h, hx, fun w' _ => by simp [execOp, ho, ex]⟩
    · rename_i f first caps h1
      rw [h1] at hx
      cases hv : a.eval x <;> rw [hv] at hx <;> (try (cases hx; done))
      case func g fs cs =>
        have : g = .func f := by cases hx; rfl
        subst this
        exact ⟨_, _, h, hx, fun w' _ => by simp [execOp, ho, hv]⟩
    · exact h.elim
  case pick c x y => exact pickV_sound H ho h
  case load T x =>
    split at h
    · rename_i ti ht; exact loadV_sound hG H ht ho hok h
    · exact h.elim
  case binOp op T x y yT => exact binV_sound hG H ho h
  case unOp op T x => exact unV_sound H ho h
  case convert s d x => exact convV_sound hG H ho hok h
  case fieldAddr T x f => exact fieldAddrV_sound hG H ho h
  case field T x f => exact fieldV_sound hG H ho h
  case indexAddr T x i => exact indexAddrV_sound hG H ho h
  case index T x i => exact indexV_sound hG H ho h
  case slice T x lo hi mx =>
    cases mx with
    | none => exact sliceV_sound hG H ho h
    | some m => exact slice3V_sound hG H ho h
  case extract x i =>
    have hx := H.ev x
    split at h
    case h_2 => exact h.elim
    rename_i vs h1
    split at h
    case h_2 => exact h.elim
    rename_i r hr
    rw [h1] at hx
    obtain ⟨us, ex, hsz, hrep⟩ := hx.tup_inv
    refine ⟨r, _, h, hrep i r hr, fun w' _ => ?_⟩
    have := getElem?_of_getD (vs := us) (j := i) (by rw [hsz]; exact (List.getElem?_eq_some_iff.1 hr).1)
    simp only [execOp, ho, ex, Instr.extract]
    rw [this]; rfl
  case build T parts =>
    split at h
    case h_2 => exact h.elim
    rename_i ti ht
    split at h
    · rename_i fs hu
      split at h
      case h_2 => exact h.elim
      rename_i cs hb
      exact build_sound hG H ht hu ho hb h
    · rename_i len el hu
      split at h
      case h_2 => exact h.elim
      rename_i te hte
      split at h
      case h_2 => exact h.elim
      rename_i cs hb
      exact buildA_sound hG H ht hte hu ho hb h
    · exact h.elim
  case makeFunc f fs cs =>
    have hr : ∀ (xs : Array Operand) (j : Nat) s, (xs.toList.map S.ev)[j]? = some s → Rep w F e s ((xs.map a.eval).getD j undef) := by
      intro xs j s hj
      rw [List.getElem?_map] at hj
      cases hx : xs.toList[j]? with
      | none => rw [hx] at hj; cases hj
      | some x =>
        rw [hx] at hj
        simp at hj
        subst hj
        have hx' : xs[j]? = some x := by simpa using hx
        rw [Array.getD_eq_getD_getElem?, Array.getElem?_map, hx']
        exact H.ev x
    exact ⟨_, .func f (fs.map a.eval) (cs.map a.eval), h, .fn (by simp) (by simp) (hr fs) (hr cs), fun w' _ => by simp [execOp, ho, Instr.makeFunc]⟩
  case makeInterface T x =>
    split at h
    case h_2 => exact h.elim
    rename_i ti ht
    obtain ⟨hc, h⟩ := h.elim
    exact ⟨_, .iface T (a.eval x), h, .ifc (H.ev x), fun w' _ => by simp [execOp, ho, run_makeInterface w' T (a.eval x) ((hG.get ht).conc hc)]⟩
  case call c =>
    obtain ⟨callee, args, ts⟩ := c
    obtain ⟨args⟩ := args
    obtain ⟨ts⟩ := ts
    unfold builtinV at h
    split at h
    case h_2 => exact h.elim
    rename_i b hcal
    simp only at hcal
    subst hcal
    split at h
    · rename_i x T h1 h2
      simp only at h1 h2
      subst h1; subst h2
      exact lenV_sound hG H ho h
    · rename_i x y h1
      simp only at h1
      subst h1
      exact minmaxV_sound (mx := false) H ho h
    · rename_i x y h1
      simp only at h1
      subst h1
      exact minmaxV_sound (mx := true) H ho h
    · exact h.elim

end
end Go.Ab
