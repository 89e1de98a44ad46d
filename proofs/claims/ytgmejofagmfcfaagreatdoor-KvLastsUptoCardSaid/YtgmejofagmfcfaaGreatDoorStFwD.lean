/- The plain side: functions that may come to nothing, loops, texts as lists of bytes. No program in sight. -/
import Derived.Test.YtgmejofagmfcfaaGreatDoorStFwC
import Derived.RangeFuncBox
import Derived.JoinedCond
import Derived.Carry
import Derived.OpenShut
import Derived.ProofKit
namespace Go.Ab
abbrev Str := List UInt8
/-- A byte, as a whole number tells it. -/
def u8 (n : Int) : UInt8 := UInt8.ofNat n.toNat

/-- Where p is not so, the program would not go on. -/
def need {α : Type} (p : Prop) [Decidable p] (m : Option α) : Option α := if p then m else none
theorem need_some {α : Type} {p : Prop} [Decidable p] {m : Option α} {r : α} (h : need p m = some r) : p ∧ m = some r := by
  unfold need at h
  split at h
  · exact ⟨by assumption, h⟩
  · cases h
theorem need_pos {α : Type} {p : Prop} [Decidable p] {m : Option α} (h : p) : need p m = m := if_pos h
theorem bind_some {α β : Type} {m : Option α} {f : α → Option β} {r : β} (h : m.bind f = some r) : ∃ y, m = some y ∧ f y = some r := Option.bind_eq_some_iff.1 h
theorem if_t {α : Type} {b : Bool} {x y : Option α} {r : α} (hb : b = true) (h : (if b = true then x else y) = some r) : x = some r := by rwa [if_pos hb] at h
theorem if_f {α : Type} {b : Bool} {x y : Option α} {r : α} (hb : b = false) (h : (if b = true then x else y) = some r) : y = some r := by subst hb; exact h

/-- An element, by a whole number. -/
def ix {α : Type} (l : List α) (i : Int) : Option α := if 0 ≤ i then l[i.toNat]? else none
theorem ix_some {α : Type} {l : List α} {i : Int} {x : α} (h : ix l i = some x) : 0 ≤ i ∧ l[i.toNat]? = some x := by
  unfold ix at h
  split at h
  · exact ⟨by assumption, h⟩
  · cases h
theorem ix_lt {α : Type} {l : List α} {i : Int} {x : α} (h : ix l i = some x) : 0 ≤ i ∧ i < (l.length : Int) ∧ i.toNat < l.length := by
  obtain ⟨h1, h2⟩ := ix_some h
  have := (List.getElem?_eq_some_iff.1 h2).1
  omega
theorem ix_nat {α : Type} (l : List α) (k : Nat) : ix l (k : Int) = l[k]? := by unfold ix; simp
theorem ix_get {α : Type} {l : List α} {k : Nat} (h : k < l.length) : ix l (k : Int) = some l[k] := by rw [ix_nat, List.getElem?_eq_getElem h]

/-! ### Loops -/
def loopN {σ ρ : Type} (step : σ → Option (σ ⊕ ρ)) : Nat → σ → Option ρ
  | 0, _ => none
  | n + 1, s => match step s with
    | none => none
    | some (.inl s') => loopN step n s'
    | some (.inr r) => some r
theorem loopN_succ {σ ρ : Type} {step : σ → Option (σ ⊕ ρ)} : ∀ {n : Nat} {s : σ} {r : ρ}, loopN step n s = some r → loopN step (n + 1) s = some r
  | 0, _, _, h => by cases h
  | n + 1, s, r, h => by
    unfold loopN at h ⊢
    split at h
    · cases h
    · rename_i s' hs; exact loopN_succ h
    · exact h
theorem loopN_le {σ ρ : Type} {step : σ → Option (σ ⊕ ρ)} {n m : Nat} {s : σ} {r : ρ} (hm : n ≤ m) (h : loopN step n s = some r) : loopN step m s = some r := by
  induction hm with
  | refl => exact h
  | step _ ih => exact loopN_succ ih
open Classical in
/-- What a loop comes to, if it comes to an end. -/
noncomputable def loop {σ ρ : Type} (step : σ → Option (σ ⊕ ρ)) (s : σ) : Option ρ :=
  if h : ∃ r n, loopN step n s = some r then some h.choose else none
theorem loop_iff {σ ρ : Type} {step : σ → Option (σ ⊕ ρ)} {s : σ} {r : ρ} : loop step s = some r ↔ ∃ n, loopN step n s = some r := by
  constructor
  · intro h
    unfold loop at h
    split at h
    · rename_i hh
      injection h with h
      subst h
      exact hh.choose_spec
    · cases h
  · rintro ⟨n, h⟩
    have hh : ∃ r n, loopN step n s = some r := ⟨r, n, h⟩
    unfold loop
    rw [dif_pos hh]
    obtain ⟨m, h2⟩ := hh.choose_spec
    have a := loopN_le (Nat.le_max_left n m) h
    have b := loopN_le (Nat.le_max_right n m) h2
    rw [a] at b
    exact b.symm
theorem loop_eq {σ ρ : Type} (step : σ → Option (σ ⊕ ρ)) (s : σ) : loop step s = (step s).bind fun y => match y with | .inl s' => loop step s' | .inr r => some r := by
  cases hs : step s with
  | none =>
    rw [Option.bind_none]
    cases hl : loop step s with
    | none => rfl
    | some r =>
      obtain ⟨n, h⟩ := loop_iff.1 hl
      cases n with
      | zero => cases h
      | succ n => unfold loopN at h; rw [hs] at h; cases h
  | some y =>
    rw [Option.bind_some]
    cases y with
    | inr r => exact loop_iff.2 ⟨1, by unfold loopN; rw [hs]⟩
    | inl s' =>
      simp only
      cases hl : loop step s' with
      | none =>
        cases hl2 : loop step s with
        | none => rfl
        | some r =>
          obtain ⟨n, h⟩ := loop_iff.1 hl2
          cases n with
          | zero => cases h
          | succ n =>
            unfold loopN at h
            rw [hs] at h
            have := loop_iff.2 ⟨n, h⟩
            rw [hl] at this; cases this
      | some r =>
        obtain ⟨n, h⟩ := loop_iff.1 hl
        exact loop_iff.2 ⟨n + 1, by unfold loopN; rw [hs]; exact h⟩
theorem loop_inl {σ ρ : Type} {step : σ → Option (σ ⊕ ρ)} {s s' : σ} (h : step s = some (.inl s')) : loop step s = loop step s' := by rw [loop_eq, h]; rfl
theorem loop_inr {σ ρ : Type} {step : σ → Option (σ ⊕ ρ)} {s : σ} {r : ρ} (h : step s = some (.inr r)) : loop step s = some r := by rw [loop_eq, h]; rfl
end Go.Ab

/- The walk's words about the plain side: texts as lists of bytes, slices of what is encoded, loops. -/
namespace Go.Ab
set_option linter.unusedVariables false
set_option linter.unusedSimpArgs false

def bs (l : Str) : ByteArray := ⟨⟨l⟩⟩
theorem bs_data (l : Str) : (bs l).data.toList = l := rfl
theorem bs_toList (l : Str) : (bs l).toList = l := by
  rw [ByteArray.toList_eq]; rfl
theorem bs_of (b : ByteArray) : bs b.data.toList = b := rfl
theorem bs_inj {a b : Str} (h : bs a = bs b) : a = b := by injection h with h; injection h
theorem bs_iff {a b : Str} : bs a = bs b ↔ a = b := ⟨bs_inj, fun h => h ▸ rfl⟩
theorem bs_append (a b : Str) : bs (a ++ b) = bs a ++ bs b := by
  apply ByteArray.ext
  rw [ByteArray.data_append]
  simp [bs]
theorem ofInts_eq (l : List Int) : bs (l.map u8) = ofInts l := by
  have key : ∀ (l : List Int) (b : ByteArray), (l.foldl (fun r n => r.push (UInt8.ofNat n.toNat)) b).data.toList = b.data.toList ++ l.map u8 := by
    intro l
    induction l with
    | nil => intro b; simp
    | cons n r ih => intro b; rw [List.foldl_cons, ih]; simp [ByteArray.push, u8]
  have h := key l ByteArray.empty
  have e : ByteArray.empty.data.toList = [] := rfl
  rw [e, List.nil_append] at h
  rw [← bs_of (ofInts l)]
  unfold ofInts
  rw [h]
theorem ofInts_eq' {l : List Int} : bs (l.map u8) = ofInts l := ofInts_eq l
theorem bs_size (l : Str) : ((bs l).size : Int) = l.length := rfl
theorem bs_eq (a b : Str) : decide (a = b) = decide (bs a = bs b) := by
  rw [decide_eq_decide]; exact ⟨fun h => h ▸ rfl, bs_inj⟩
theorem bs_ne (a b : Str) : (!decide (a = b)) = !decide (bs a = bs b) := by rw [bs_eq]
def ltS (a b : Str) : Bool := Op.bytesLess a b
theorem bs_lt (a b : Str) : ltS a b = ltB (bs a) (bs b) := by unfold ltS ltB; rw [bs_toList, bs_toList]
theorem bs_le (a b : Str) : (ltS a b || decide (a = b)) = (ltB (bs a) (bs b) || decide (bs a = bs b)) := by rw [bs_lt, bs_eq]
theorem bs_gt (a b : Str) : (!(ltS a b || decide (a = b))) = !(ltB (bs a) (bs b) || decide (bs a = bs b)) := by rw [bs_lt, bs_eq]
theorem bs_ge (a b : Str) : (!ltS a b) = !ltB (bs a) (bs b) := by rw [bs_lt]
/-- From i on, ahead of j. -/
def cut {α : Type} (l : List α) (i j : Int) : List α := (l.take j.toNat).drop i.toNat
theorem bs_cut (l : Str) (i j : Int) : bs (cut l i j) = (bs l).extract i.toNat j.toNat := by
  apply ByteArray.ext
  rw [ByteArray.data_extract]
  apply Array.ext'
  simp [bs, cut, List.drop_take]
theorem bs_at {l : Str} {i : Int} {c : UInt8} (h : ix l i = some c) : (c.toNat : Int) = ((byteAt (bs l) i.toNat).toNat : Int) := by
  have h1 := (ix_some h).2
  have hlt := (ix_lt h).2.2
  have : byteAt (bs l) i.toNat = c := by
    unfold byteAt
    rw [dif_pos (show i.toNat < (bs l).size from hlt)]
    have : (bs l)[i.toNat]'(show i.toNat < (bs l).size from hlt) = l[i.toNat] := rfl
    rw [this]
    rw [List.getElem?_eq_getElem hlt] at h1
    injection h1
  rw [this]
theorem bs_bound {l : Str} {i : Int} {c : UInt8} (h : ix l i = some c) : 0 ≤ i ∧ i.toNat < (bs l).size := ⟨(ix_lt h).1, (ix_lt h).2.2⟩

theorem del_list {α : Type} (xs : List α) (i j : Nat) (r : List α) (h1 : i ≤ j) (h2 : j ≤ xs.length) :
    List.take (i + (xs.length - j)) (List.take (i + (xs.length - j)) (List.take i xs ++ List.take (xs.length - j) (List.drop j xs) ++ List.drop (i + (xs.length - j)) xs) ++ r) = List.take i xs ++ List.drop j xs := by
  have e1 : List.take (xs.length - j) (List.drop j xs) = List.drop j xs := by
    apply List.take_of_length_le; simp
  have e2 : (List.take i xs ++ List.drop j xs).length = i + (xs.length - j) := by simp; omega
  rw [e1]
  have e3 : List.take (i + (xs.length - j)) (List.take i xs ++ List.drop j xs ++ List.drop (i + (xs.length - j)) xs) = List.take i xs ++ List.drop j xs := by
    rw [List.take_append_of_le_length (by omega), List.take_of_length_le (by omega)]
  rw [e3, List.take_append_of_le_length (by omega), List.take_of_length_le (by omega)]

/-! ### Rows of what is encoded -/
theorem map_get {α : Type} (f : α → List AV) {l : List α} {k : Nat} {x : α} (h : l[k]? = some x) : (l.map f)[k]? = some (f x) := by rw [List.getElem?_map, h]; rfl
theorem map_len {α : Type} {f : α → List AV} {n : Nat} (hf : ∀ x, (f x).length = n) (l : List α) : ∀ cs ∈ l.map f, cs.length = n := by
  intro cs h; obtain ⟨x, _, rfl⟩ := List.mem_map.1 h; exact hf x
theorem map_cut {α : Type} (f : α → List AV) (l : List α) (i j : Int) : (cut l i j).map f = ((l.map f).take j.toNat).drop i.toNat := by simp [cut, List.map_take, List.map_drop]
theorem map_set {α : Type} (f : α → List AV) (l : List α) (k : Nat) (x : α) {cs : List AV} (h : cs = f x) : (l.set k x).map f = (l.map f).set k cs := by rw [h, List.map_set]
theorem map_app {α : Type} (f : α → List AV) (l m : List α) {xs ys : List (List AV)} (h : xs = l.map f) (k : ys = m.map f) : (l ++ m).map f = xs ++ ys := by rw [h, k, List.map_append]
theorem len_map {α : Type} (f : α → List AV) (l : List α) : ((l.map f).length : Int) = l.length := by rw [List.length_map]

def encI (k : IntKind) (n : Int) : List AV := [.v (.int k n)]
def encB (b : Bool) : List AV := [.v (.bool b)]
def encS (s : Str) : List AV := [.v (.string (bs s))]

theorem LeRs.all {S : St} {l : List (Nat × AV)} (h : l.map (fun p => S.regs p.1) = l.map (·.2)) : LeRs S l := by
  induction l with
  | nil => exact .nil
  | cons p r ih =>
    rw [List.map_cons, List.map_cons] at h
    obtain ⟨h1, h2⟩ := List.cons.inj h
    exact .cons (.one (.same h1)) (ih h2)
theorem LeRs.run (k : Nat) {S : St} {l : List (Nat × AV)} (h : (l.take k).map (fun p => S.regs p.1) = (l.take k).map (·.2)) (hr : LeRs S (l.drop k)) : LeRs S l := by
  induction k generalizing l with
  | zero => exact hr
  | succ k ih =>
    cases l with
    | nil => exact .nil
    | cons p r =>
      rw [List.take_succ_cons, List.map_cons, List.map_cons] at h
      obtain ⟨h1, h2⟩ := List.cons.inj h
      exact .cons (.one (.same h1)) (ih h2 hr)
theorem LeH.rest {H r : List Ob} : LeH H r r := by
  induction r with
  | nil => exact .nil
  | cons a r ih => exact .cons (.same rfl) ih

/-- The end of a function, something let go ahead of it. -/
structure FinW (f : Exit → St → Prop) (ex : Exit) (S : St) : Prop where
  out : ∃ S', Weak S S' ∧ f ex S'
theorem fin_here {f : Exit → St → Prop} {ex : Exit} {S : St} (h : f ex S) : FinW f ex S := ⟨⟨S, Weak.refl S, h⟩⟩
theorem fin_pre {f : Exit → St → Prop} {ex : Exit} {S S' : St} (hw : Weak S S') (h : f ex S') : FinW f ex S := ⟨⟨S', hw, h⟩⟩
theorem Tri.ofW {P : Program} {c : Code} {S : St} {f : Exit → St → Prop} (h : Tri P c S (FinW f)) : Tri P c S f := by
  refine ⟨fun C a w F e hs => wp_mono (h.out C a w F e hs) ?_⟩
  rintro x a' w' ⟨S', F', e', hq, hs'⟩
  obtain ⟨S2, hw, hf⟩ := hq.out
  obtain ⟨F2, e2, h2⟩ := hw.out C a' w' F' e' hs'
  exact ⟨S2, F2, e2, hf, h2⟩
section
variable {P : Program} {G : Gm}
theorem pureW (hG : TyOk P G.tys) {g : FuncId} {fn : Func} {c : Code} (hf : P.funcs[g]? = some fn) (hb : fn.body = some c) (hn : (fn.name == "runtime.NumGoroutine") = false)
    {args : List AV} {K : AV → Prop} (hl : args.length ≤ fn.ntmps) (h : Tri P c ⟨fn.ntmps, 0, initRegs args, []⟩ (FinW (finP G fn.results.toList K))) : PureP P g args K := pure_of hG hf hb hn hl h.ofW
theorem callW (hG : TyOk P G.tys) {g : FuncId} {fn : Func} {c : Code} (hf : P.funcs[g]? = some fn) (hb : fn.body = some c) (hn : (fn.name == "runtime.NumGoroutine") = false)
    {H : List Ob} {args : List AV} {K : AV → List Ob → Prop} (hl : args.length ≤ fn.ntmps) (h : Tri P c ⟨fn.ntmps, H.length, initRegs args, H⟩ (FinW (finC G fn.results.toList K))) : CallP P g H args K := call_of hG hf hb hn hl h.ofW
theorem freshW (hG : TyOk P G.tys) {g : FuncId} {fn : Func} {c : Code} (hf : P.funcs[g]? = some fn) (hb : fn.body = some c) (hn : (fn.name == "runtime.NumGoroutine") = false)
    {args : List AV} {el sz : Nat} {K : List (List AV) → Prop} (hl : args.length ≤ fn.ntmps) (h : Tri P c ⟨fn.ntmps, 0, initRegs args, []⟩ (FinW (finE G fn.results.toList el sz K))) : FreshP P g args el sz K := fresh_of hG hf hb hn hl h.ofW
theorem eatW (hG : TyOk P G.tys) {g : FuncId} {fn : Func} {c : Code} (hf : P.funcs[g]? = some fn) (hb : fn.body = some c) (hn : (fn.name == "runtime.NumGoroutine") = false)
    {args : List AV} {el sz : Nat} {xs : List (List AV)} {K : List (List AV) → Prop} (hl : args.length + 1 ≤ fn.ntmps) (h : Tri P c ⟨fn.ntmps, 1, initRegs (.row 0 xs.length :: args), [.row el sz xs]⟩ (FinW (finE G fn.results.toList el sz K))) : EatP P g el sz xs args K := eat_of hG hf hb hn hl h.ofW
end

section
variable {P : Program} {S : St}
/-- A LOOP, by the plain loop. -/
theorem Tri.loopF {σ ρ : Type} {c : Code} {Q : Exit → St → Prop} {step : σ → Option (σ ⊕ ρ)} (Fam : σ → St) {s0 : σ} {r : ρ} (h : Go.Ab.loop step s0 = some r) (h0 : Weak S (Fam s0))
    (round : ∀ s y, step s = some y → (∀ r', y = .inr r' → r' = r) → Tri P c (Fam s) fun x S2 => match x with | .normal => ∃ s', y = .inl s' ∧ Weak S2 (Fam s') | x => Q x S2) : Tri P (.loop c) S Q := by
  obtain ⟨n, hn⟩ := loop_iff.1 h
  refine Tri.loop (fun n S => ∃ s, S = Fam s ∧ loopN step n s = some r) n (Fam s0) h0 ⟨s0, rfl, hn⟩ ?_
  rintro n S1 ⟨s, rfl, hs⟩
  cases n with
  | zero => cases hs
  | succ n =>
    unfold loopN at hs
    cases hy : step s with
    | none => rw [hy] at hs; cases hs
    | some y =>
      rw [hy] at hs
      refine (round s y hy ?_).mono ?_
      · rintro r' rfl; simp only at hs; injection hs
      · intro x S2 hx
        cases x with
        | normal =>
          obtain ⟨s', rfl, hw⟩ := hx
          exact ⟨Fam s', n, hw, ⟨s', rfl, hs⟩, by omega⟩
        | _ => exact hx

theorem Tri.cut {c : Code} {Q : Exit → St → Prop} (I : Exit → St → Prop) (h : Tri P c S I) (hq : ∀ ex S', I ex S' → Q ex S') : Tri P c S Q := h.mono hq
theorem Tri.condT {c : Operand} {x y : Code} {Q : Exit → St → Prop} (hb : S.ev c = .v (.bool true)) (h : Tri P x (refineC S c true) Q) : Tri P (.cond c x y) S Q := Tri.cond hb (fun _ => h) (fun h => by cases h)
theorem Tri.condF {c : Operand} {x y : Code} {Q : Exit → St → Prop} (hb : S.ev c = .v (.bool false)) (h : Tri P y (refineC S c false) Q) : Tri P (.cond c x y) S Q := Tri.cond hb (fun h => by cases h) (fun _ => h)
end
end Go.Ab

/- Contracts in the kit's words out of contracts of this text, and back: for functions that are walked by the kit's own words (a range over a function). -/
namespace Go.Ab
open Go.RowKit
set_option linter.unusedVariables false
set_option linter.unusedSimpArgs false
/-- What a contract over values without memory says of the machine. -/
theorem PureP.calls {P : Program} {g : FuncId} {args : List AV} {r : AV} {l : List Value} {v : Value} (h : PureP P g args (fun a => a = r)) (ha : concs args = some l) (hr : conc r = some v) (w : World) (hg : GW w) :
    Calls P g l.toArray w fun en w' => en = .returned v ∧ w.grownBy w' none := by
  obtain ⟨h1, h2⟩ := concs_rep (w := w) (F := fun _ => False) (e := Env.nil) args l ha
  refine (h.run w (fun _ => False) l.toArray hg (fun _ x => x.elim) ⟨by simp [h1], fun j s hj => by simpa [Array.getD_eq_getD_getElem?] using h2 j s hj⟩).mono ?_
  rintro en w' ⟨r', x, F', rfl, rfl, hx, _, _, _, T⟩
  rw [conc_inv r' x v hx hr]
  exact ⟨rfl, ⟨T.os, T.tape, T.output, T.size, fun k hk _ => T.block k hk (fun x => x)⟩⟩
theorem row_far {W : World} {base : Nat} {e : TypeId} {size k : Nat} {v : Value} {xs : List Value} (h : W.ownsRow base e size v k xs) {B : Nat} (hB : B < base) : some B ≠ v.ownBlock := by
  rcases h.2 with ⟨rfl, _⟩ | ⟨g, cap, cur, rfl, hg, _⟩
  · simp [Value.ownBlock]
  · intro e'
    have : B = g := by simpa [Value.ownBlock] using e'
    omega
theorem row_base {W : World} {base base' : Nat} {e : TypeId} {size k : Nat} {v : Value} {xs : List Value} (h : W.ownsRow base e size v k xs) (hB : base' ≤ base) : W.ownsRow base' e size v k xs := by
  refine ⟨h.1, ?_⟩
  rcases h.2 with h | ⟨g, cap, cur, h1, hg, h2⟩
  · exact .inl h
  · exact .inr ⟨g, cap, cur, h1, by omega, h2⟩
/-- A round leaves a box as it is. -/
def KeepBox (B : Nat) (t : TypeId) (X Y : World) : Prop := ∀ v, Boxed X B t v → Boxed Y B t v
theorem keepBox_t {B : Nat} {t : TypeId} {X Y Z : World} (h : KeepBox B t X Y) (k : KeepBox B t Y Z) : KeepBox B t X Z := fun v hv => k v (h v hv)
theorem keepBox_b {B n : Nat} {t : TypeId} (W : World) (l : Nat) (o o' : Obj) (hn : n ≤ l) (hl : W.heap[l]? = some o) (hc : o.isCells = false) (hw : o.isWalk = false) : KeepBox B t W (W.putObj l o') := fun v hv =>
  hv.kept (grownBy_putObj' W l o') (fun e => by injection e with e; subst e; rw [show W.heap[_]? = _ from hv] at hl; cases hl; cases hc)
/-- A row of values without memory, of one cell each, that was newly made: a slice that stands for good. -/
theorem rep_of_row {w : World} {F : Nat → Prop} {e : Env} {base k : Nat} {t : TypeId} {v : Value} {vs : List Value} {xs : List AV} (h : w.ownsRow base t 1 v k vs) (hc : concs xs = some vs) (h1 : ones xs = true) (hF : ∀ b, v.ownBlock = some b → F b) :
    Rep w F e (.sl (xs.map fun a => [a])) v := by
  obtain ⟨hl, hr⟩ := concs_rep (w := w) (F := F) (e := Env.nil) xs vs hc
  have hk : k = xs.length := by have := h.1; omega
  subst hk
  have hat : ∀ (i : Nat) (cs : List AV), (xs.map fun a => [a])[i]? = some cs → ∃ a, xs[i]? = some a ∧ cs = [a] := fun i cs hi => by
    rw [List.getElem?_map] at hi
    cases hg : xs[i]? with
    | none => rw [hg] at hi; cases hi
    | some a => rw [hg] at hi; injection hi with hi; exact ⟨a, rfl, hi.symm⟩
  have fin : ∀ (A : Option Addr) (c g : Nat) (hcap : xs.length ≤ c) (hA : xs ≠ [] → A = some ⟨g, 0, none⟩ ∧ F g) (hcell : ∀ i, i < xs.length → w.cell? ⟨g, i, none⟩ = some (vs.getD i undef)),
      Rep w F e (.sl (xs.map fun a => [a])) (.slice A xs.length c) := by
    intro A c g hcap hA hcell
    have : xs.length = (xs.map fun a => [a]).length := by simp
    rw [this]
    refine .sl 1 ⟨g, 0, none⟩ (fun i j => vs.getD i undef) (by simpa using hcap) (fun hne => ?_) (fun i cs hi => ?_) (fun i cs hi => ?_) (fun i cs j s hi hj => ?_) (fun i cs j s hi hj => ?_)
    · have hx : xs ≠ [] := by rintro rfl; exact hne rfl
      exact ⟨(hA hx).1, (hA hx).2, rfl⟩
    · obtain ⟨a, _, rfl⟩ := hat i cs hi; rfl
    · obtain ⟨a, ha, rfl⟩ := hat i cs hi
      have := List.all_eq_true.1 h1 a (List.mem_of_getElem? ha)
      simp [ones, this]
    · obtain ⟨a, ha, rfl⟩ := hat i cs hi
      have hj0 : j = 0 := by have := (List.getElem?_eq_some_iff.1 hj).1; simpa using this
      subst hj0
      have := hcell i (List.getElem?_eq_some_iff.1 ha).1
      simpa using this
    · obtain ⟨a, ha, rfl⟩ := hat i cs hi
      have hj0 : j = 0 := by have := (List.getElem?_eq_some_iff.1 hj).1; simpa using this
      subst hj0
      simp at hj
      subst hj
      exact hr i a ha
  rcases h.2 with ⟨rfl, h0⟩ | ⟨g, cap, cur, rfl, hg, hb, hcap, hmax, hsz, hcur⟩
  · rw [← h0]
    exact fin none xs.length 0 (Nat.le_refl _) (fun hx => by have := List.length_pos_iff.2 hx; omega) (fun i hi => by omega)
  · refine fin (some ⟨g, 0, none⟩) cap g hcap (fun _ => ⟨rfl, hF g rfl⟩) (fun i hi => ?_)
    have : vs[i]? = cur[i]? := by
      rw [← hcur]
      rw [List.getElem?_take_of_lt (by omega)]
      simp
    have hi2 : i < vs.length := by omega
    simp only [World.cell?, hb]
    rw [← this, List.getElem?_eq_getElem hi2]
    simp [hi2]
theorem concs_strs : ∀ (l : List Str), concs (l.map fun s => AV.v (.string (bs s))) = some (l.map fun s => Value.string (bs s))
  | [] => rfl
  | s :: r => by
    rw [List.map_cons, List.map_cons]
    unfold concs conc
    rw [concs_strs r]
end Go.Ab

/- From a row of the statements to the plain side: what is read of the arguments is plain data, held as the walks want it; and behind the call it reads as before. -/
namespace Go.Ab
open Go.ChangeShapes Go.WideShapes Go.ChangeAt Go.RowKit
set_option linter.unusedVariables false
set_option linter.unusedSimpArgs false

/-- What stood when the call began. -/
def Old (w : World) (b : Nat) : Prop := b < w.heap.size

/-- These values hold these cells. -/
structure RepL (w : World) (cs : List Value) (l : List AV) : Prop where
  len : cs.length = l.length
  rep : ∀ (j : Nat) s, l[j]? = some s → Rep w (Old w) Env.nil s (cs.getD j undef)

mutual
def bulk {H : Type} : DataW H → Nat
  | .lit (.string bytes) => bytes.length + 1
  | .lit _ => 1
  | .nil => 1
  | .ptr d => bulk d + 1
  | .slice elems spare => bulkAll elems + bulkAll spare + 1
  | .agg parts => bulkAll parts + 1
  | _ => 0
def bulkAll {H : Type} : List (DataW H) → Nat
  | [] => 0
  | d :: r => bulk d + bulkAll r
end

def okK (k : IntKind) (n : Int) : Prop := k.min ≤ n ∧ n ≤ k.max
def sumOf {α : Type} (f : α → Nat) : List α → Nat
  | [] => 0
  | x :: r => f x + sumOf f r

section
variable {H : Type} {enc : TypeId × Value → H} {P : Program} {w : World} {spare : Nat → Bool} {held : Bool} {fuel : Nat} {cs : List Value} {x : DataW H × List MemPlace}

theorem RepL.one {a : AV} {v : Value} (h : Rep w (Old w) Env.nil a v) : RepL w [v] [a] := by
  refine ⟨rfl, fun j s hj => ?_⟩
  cases j with
  | zero => simp at hj; subst hj; exact h
  | succ j => simp at hj

theorem RepL.nil : RepL w (cs.drop cs.length) [] := ⟨by simp, fun j s hj => by simp at hj⟩
theorem RepL.app {o k : Nat} {l r : List AV} (hk : l.length = k) (h : RepL w ((cs.drop o).take k) l) (t : RepL w (cs.drop (o + k)) r) : RepL w (cs.drop o) (l ++ r) := by
  have h1 := h.len
  have h2 := t.len
  rw [List.length_take, hk] at h1
  rw [List.length_drop] at h2
  have h3 : (cs.drop o).length = cs.length - o := List.length_drop
  refine ⟨by rw [List.length_append, hk, List.length_drop]; omega, fun j s hj => ?_⟩
  rcases Nat.lt_or_ge j l.length with hlt | hge
  · rw [List.getElem?_append_left hlt] at hj
    have := h.rep j s hj
    rw [List.getD_eq_getElem?_getD, List.getElem?_take_of_lt (by omega)] at this
    rw [List.getD_eq_getElem?_getD]
    exact this
  · rw [List.getElem?_append_right hge] at hj
    have := t.rep _ s hj
    rw [List.getD_eq_getElem?_getD, List.getElem?_drop] at this
    rw [List.getD_eq_getElem?_getD, List.getElem?_drop]
    have e : o + k + (j - l.length) = o + j := by omega
    rw [e] at this
    exact this

theorem RepL.cons {a : AV} {v : Value} {l : List AV} {vs : List Value} (h : Rep w (Old w) Env.nil a v) (r : RepL w vs l) : RepL w (v :: vs) (a :: l) := by
  refine ⟨by simp [r.len], fun j s hj => ?_⟩
  cases j with
  | zero => simp at hj; subst hj; exact h
  | succ j => simp at hj; simpa using r.rep j s hj
theorem RepL.none : RepL w [] [] := ⟨rfl, fun j s hj => by simp at hj⟩
theorem RepL.fst {a : AV} {v : Value} (h : RepL w [v] [a]) : Rep w (Old w) Env.nil a v := h.rep 0 a rfl
theorem RepL.agg {vs : Array Value} {l : List AV} (h : RepL w vs.toList l) : Rep w (Old w) Env.nil (.agg l) (.agg vs) :=
  .agg (by simpa using h.len) (fun j s hj => by have := h.rep j s hj; rw [List.getD_eq_getElem?_getD, Array.getElem?_toList] at this; rw [Array.getD_eq_getD_getElem?]; exact this)
theorem RepL.cells {vs : List Value} {l : List AV} (h : RepL w vs l) : RepCells w (Old w) Env.nil l vs.toArray :=
  ⟨by simpa using h.len, fun j s hj => by have := h.rep j s hj; rw [List.getD_eq_getElem?_getD] at this; rw [Array.getD_eq_getD_getElem?]; simpa using this⟩
theorem arg_agg {t : TypeId} {fs : Array Field} {v : Value} {d : DataW H} {ps : List MemPlace} {r : Reach} {b0 : Nat} (ht : P.underlying t = some (.struct fs)) (hval : Value.okWide P w r b0 t v) (hd : DataW.Trod enc P w 0 spare held t v d ps) :
    ∃ vs fuel, v = .agg vs ∧ DataW.trod enc P w 0 spare held fuel t vs.toList = some (d, ps) := by
  obtain ⟨vs, rfl, _⟩ := okWide_struct ht hval
  obtain ⟨fuel, h⟩ := hd
  exact ⟨vs, fuel, rfl, h⟩
theorem arg_slice {t e : TypeId} {v : Value} {d : DataW H} {ps : List MemPlace} {r : Reach} {b0 : Nat} (ht : P.underlying t = some (.slice e)) (hval : Value.okWide P w r b0 t v) (hd : DataW.Trod enc P w 0 spare held t v d ps) :
    ∃ fuel, DataW.trod enc P w 0 spare held fuel t [v] = some (d, ps) := by
  obtain ⟨a, l, c, rfl⟩ := okWide_slice ht hval
  exact hd
theorem arg_int {t : TypeId} {k : IntKind} {v : Value} {d : DataW H} {ps : List MemPlace} {r : Reach} {b0 : Nat} (ht : P.underlying t = some (.int k)) (hval : Value.okWide P w r b0 t v) (hd : DataW.Trod enc P w 0 spare held t v d ps) :
    ∃ fuel, DataW.trod enc P w 0 spare held fuel t [v] = some (d, ps) := by
  obtain ⟨n, rfl⟩ := okWide_int ht hval
  exact hd
theorem arg_bool {t : TypeId} {v : Value} {d : DataW H} {ps : List MemPlace} {r : Reach} {b0 : Nat} (ht : P.underlying t = some .bool) (hval : Value.okWide P w r b0 t v) (hd : DataW.Trod enc P w 0 spare held t v d ps) :
    ∃ fuel, DataW.trod enc P w 0 spare held fuel t [v] = some (d, ps) := by
  obtain ⟨n, rfl⟩ := okWide_bool ht hval
  exact hd
theorem arg_string {t : TypeId} {v : Value} {d : DataW H} {ps : List MemPlace} {r : Reach} {b0 : Nat} (ht : P.underlying t = some .string) (hval : Value.okWide P w r b0 t v) (hd : DataW.Trod enc P w 0 spare held t v d ps) :
    ∃ fuel, DataW.trod enc P w 0 spare held fuel t [v] = some (d, ps) := by
  obtain ⟨n, rfl⟩ := okWide_string ht hval
  exact hd

theorem rd_int {t : TypeId} {k : IntKind} (ht : P.underlying t = some (.int k)) (h : DataW.trod enc P w 0 spare held fuel t cs = some x) : ∃ n : Int, RepL w cs [.v (.int k n)] ∧ okK k n ∧ 1 ≤ bulk x.1 := by
  obtain ⟨n, rfl, rfl, hw⟩ := DataW.trod_int ht h
  refine ⟨n, .one .v, ?_, by simp [bulk]⟩
  simpa [Lit.wf, okK] using hw
theorem rd_bool {t : TypeId} (ht : P.underlying t = some .bool) (h : DataW.trod enc P w 0 spare held fuel t cs = some x) : ∃ b : Bool, RepL w cs [.v (.bool b)] ∧ 1 ≤ bulk x.1 := by
  obtain ⟨b, rfl, rfl⟩ := DataW.trod_bool ht h
  exact ⟨b, .one .v, by simp [bulk]⟩
theorem rd_str {t : TypeId} (ht : P.underlying t = some .string) (h : DataW.trod enc P w 0 spare held fuel t cs = some x) : ∃ s : Str, RepL w cs [.v (.string (bs s))] ∧ s.length + 1 ≤ bulk x.1 := by
  obtain ⟨s, rfl, rfl, hw⟩ := DataW.trod_string ht h
  exact ⟨s.data.toList, .one (by rw [bs_of]; exact .v), by simp [bulk]⟩

theorem bulkAll_append (l r : List (DataW H)) : bulkAll (l ++ r) = bulkAll l + bulkAll r := by
  induction l with
  | nil => simp [bulkAll]
  | cons x l ih => simp only [List.cons_append, bulkAll, ih]; omega

theorem cells_get {a : Addr} {n : Nat} {cs : List Value} (h : w.cells? 0 a n = some cs) : cs.length = n ∧ ∀ j, j < n → w.cell? (a.add j) = some (cs.getD j undef) := by
  unfold World.cells? at h
  rw [if_pos (Nat.zero_le _)] at h
  have hl := mapM_some_length h
  refine ⟨by simpa using hl, fun j hj => ?_⟩
  have := mapM_some_get h j j (by simp [hj])
  rw [this, List.getD_eq_getElem?_getD]
  have hlt : j < cs.length := by rw [hl]; simpa using hj
  rw [List.getElem?_eq_getElem hlt]
  rfl

theorem rd_slice {α : Type} {encα : α → List AV} {ok : α → Prop} {bk : α → Nat} {t e : TypeId} {sz : Nat} (ht : P.underlying t = some (.slice e)) (hsz : P.cellsOf e = sz) (hpos : 0 < sz) (henc : ∀ v, (encα v).length = sz) (hone : ∀ v, ones (encα v) = true)
    (hel : ∀ (fuel : Nat) (cs : List Value) (x : DataW H × List MemPlace), DataW.trod enc P w 0 spare held fuel e cs = some x → ∃ v, RepL w cs (encα v) ∧ ok v ∧ bk v ≤ bulk x.1)
    (h : DataW.trod enc P w 0 spare held fuel t cs = some x) : ∃ l : List α, RepL w cs [.sl (l.map encα)] ∧ (∀ v ∈ l, ok v) ∧ sumOf bk l + 1 ≤ bulk x.1 := by
  rcases DataW.trod_slice ht h with ⟨rfl, rfl⟩ | ⟨a, len, cap, elems, rest, n, rfl, rfl, rfl, _, hle, hmx, hlen, hget, _, _⟩
  · refine ⟨[], .one ?_, by simp, by simp [sumOf, bulk]⟩
    exact .sl 0 default (fun _ _ => undef) (Nat.le_refl 0) (fun h => absurd rfl h) (fun i cs h => by simp at h) (fun i cs h => by simp at h) (fun i cs j s h => by simp at h) (fun i cs j s h => by simp at h)
  · -- the elements, one by one
    have hex : ∀ i, i < len → ∃ (v : α) (cs : List Value) (y : DataW H × List MemPlace), elems[i]? = some y ∧ w.cells? 0 (a.add (i * P.cellsOf e)) (P.cellsOf e) = some cs ∧ RepL w cs (encα v) ∧ ok v ∧ bk v ≤ bulk y.1 := by
      intro i hi
      have h1 := hget i hi
      have hlt : i < elems.length := by omega
      rw [List.getElem?_eq_getElem hlt] at h1
      obtain ⟨cs, h2, h3⟩ := Option.bind_eq_some_iff.1 h1
      obtain ⟨v, h4, h5, h6⟩ := hel _ _ _ h3
      exact ⟨v, cs, _, List.getElem?_eq_getElem hlt, h2, h4, h5, h6⟩
    have key : ∀ m, m ≤ len → ∃ l : List α, l.length = m ∧ (∀ v ∈ l, ok v) ∧ sumOf bk l ≤ bulkAll ((elems.map (·.1)).take m) ∧
        ∀ i v, l[i]? = some v → ∃ cs, w.cells? 0 (a.add (i * P.cellsOf e)) (P.cellsOf e) = some cs ∧ RepL w cs (encα v) := by
      intro m
      induction m with
      | zero => intro _; exact ⟨[], rfl, by simp, by simp [sumOf], fun i v h => by simp at h⟩
      | succ m ih =>
        intro hm
        obtain ⟨l, h1, h2, h3, h4⟩ := ih (by omega)
        obtain ⟨v, cs, y, h5, h6, h7, h8, h9⟩ := hex m (by omega)
        refine ⟨l ++ [v], by simp [h1], ?_, ?_, ?_⟩
        · intro u hu
          rcases List.mem_append.1 hu with hu | hu
          · exact h2 u hu
          · simp at hu; subst hu; exact h8
        · have hs : sumOf bk (l ++ [v]) = sumOf bk l + bk v := by
            clear h1 h2 h3 h4
            induction l with
            | nil => simp [sumOf]
            | cons u r ih => simp only [List.cons_append, sumOf, ih]; omega
          have ht : (elems.map (·.1)).take (m + 1) = (elems.map (·.1)).take m ++ [y.1] := by
            rw [List.take_add_one, List.getElem?_map, h5]; rfl
          rw [hs, ht, bulkAll_append]
          simp only [bulkAll]
          omega
        · intro i u hi
          rcases Nat.lt_or_ge i l.length with hlt | hge
          · rw [List.getElem?_append_left hlt] at hi; exact h4 i u hi
          · rw [List.getElem?_append_right hge] at hi
            have : i = m := by
              have := (List.getElem?_eq_some_iff.1 hi).1
              simp at this; omega
            subst this
            rw [h1, Nat.sub_self] at hi
            simp at hi
            subst hi
            exact ⟨cs, h6, h7⟩
    obtain ⟨l, h1, h2, h3, h4⟩ := key len (Nat.le_refl _)
    have ha : l ≠ [] → a.block < w.heap.size ∧ a.spot = none ∨ True := fun _ => .inr trivial
    have hlm : (l.map encα).length = len := by rw [List.length_map]; exact h1
    refine ⟨l, .one ?_, h2, ?_⟩
    · have hcells : ∀ i v, l[i]? = some v → ∃ cs : List Value, cs.length = sz ∧ (∀ j, j < sz → w.cell? ((a.add (i * sz)).add j) = some (cs.getD j undef)) ∧ ∀ (j : Nat) s, (encα v)[j]? = some s → Rep w (Old w) Env.nil s (cs.getD j undef) := by
        intro i v hi
        obtain ⟨cs, h5, h6⟩ := h4 i v hi
        obtain ⟨h7, h8⟩ := cells_get h5
        rw [hsz] at h7 h8
        exact ⟨cs, h7, h8, h6.rep⟩
      by_cases hne : l = []
      · subst hne
        simp at h1
        subst h1
        exact .sl 0 default (fun _ _ => undef) (Nat.zero_le _) (fun h => absurd rfl h) (fun i cs h => by simp at h) (fun i cs h => by simp at h) (fun i cs j s h => by simp at h) (fun i cs j s h => by simp at h)
      · have hspot : a.spot = none := by
          obtain ⟨v, r, rfl⟩ := List.exists_cons_of_ne_nil hne
          obtain ⟨cs, h5, h6, _⟩ := hcells 0 v rfl
          have := h6 0 hpos
          simp only [Nat.zero_mul] at this
          have e0 : (a.add 0).add 0 = a := by simp [Addr.add]
          rw [e0] at this
          unfold World.cell? at this
          cases hs : a.spot with
          | none => rfl
          | some k =>
            rw [hs] at this
            split at this
            · simp at this
            · cases this
        have hblk : a.block < w.heap.size := by
          obtain ⟨v, r, rfl⟩ := List.exists_cons_of_ne_nil hne
          obtain ⟨cs, h5, h6, _⟩ := hcells 0 v rfl
          have := h6 0 hpos
          have hb := World.block_lt_of_cell? w _ this
          have e0 : ((a.add (0 * sz)).add 0).block = a.block := by simp [Addr.add]
          rw [e0] at hb
          exact hb
        have hadd : ∀ i j, (a.add (i * sz)).add j = ⟨a.block, a.off + i * sz + j, none⟩ := by
          intro i j
          have h1 : a.add (i * sz) = ⟨a.block, a.off + i * sz, none⟩ := by
            unfold Addr.add
            split
            · rename_i h; rw [h]; cases a; simp_all
            · rfl
          rw [h1]
          exact addr_add rfl j
        have hch : ∀ i, ∃ f : Nat → Value, ∀ v, l[i]? = some v → (∀ j, j < sz → w.cell? ⟨a.block, a.off + i * sz + j, none⟩ = some (f j)) ∧ ∀ (j : Nat) s, (encα v)[j]? = some s → Rep w (Old w) Env.nil s (f j) := by
          intro i
          cases hi : l[i]? with
          | none => exact ⟨fun _ => undef, fun v h => by cases h⟩
          | some v =>
            obtain ⟨cs, h5, h6, h7⟩ := hcells i v hi
            refine ⟨fun j => cs.getD j undef, fun u hu => ?_⟩
            injection hu with hu
            subst hu
            exact ⟨fun j hj => by rw [← hadd]; exact h6 j hj, h7⟩
        have hval : ∃ vals : Nat → Nat → Value, ∀ i v, l[i]? = some v → (∀ j, j < sz → w.cell? ⟨a.block, a.off + i * sz + j, none⟩ = some (vals i j)) ∧ ∀ (j : Nat) s, (encα v)[j]? = some s → Rep w (Old w) Env.nil s (vals i j) :=
          ⟨fun i => (hch i).choose, fun i => (hch i).choose_spec⟩
        obtain ⟨vals, hv⟩ := hval
        have hmap : ∀ (i : Nat) cs, (l.map encα)[i]? = some cs → ∃ v, l[i]? = some v ∧ cs = encα v := by
          intro i cs hi
          rw [List.getElem?_map] at hi
          cases hx : l[i]? with
          | none => rw [hx] at hi; cases hi
          | some v => rw [hx] at hi; exact ⟨v, rfl, by simpa using hi.symm⟩
        rw [← hlm]
        refine .sl sz a vals (by rw [hlm]; exact hle) (fun _ => ⟨rfl, hblk, hspot⟩) (fun i cs hi => ?_) (fun i cs hi => ?_) (fun i cs j s hi hj => ?_) (fun i cs j s hi hj => ?_)
        · obtain ⟨v, _, rfl⟩ := hmap i cs hi; exact henc v
        · obtain ⟨v, _, rfl⟩ := hmap i cs hi; exact hone v
        · obtain ⟨v, hx, rfl⟩ := hmap i cs hi
          refine (hv i v hx).1 j ?_
          rw [← henc v]; exact (List.getElem?_eq_some_iff.1 hj).1
        · obtain ⟨v, hx, rfl⟩ := hmap i cs hi
          exact (hv i v hx).2 j s hj
    · have : (elems.map (·.1)).take len = elems.map (·.1) := List.take_of_length_le (by simp [hlen])
      rw [this] at h3
      simp only [bulk]
      omega

/-- A struct's fields, in a row. -/
theorem fields_of {t : TypeId} {fs : Array Field} (ht : P.underlying t = some (.struct fs)) (h : DataW.trod enc P w 0 spare held fuel t cs = some x) :
    ∃ (xs : List (DataW H × List MemPlace)) (n : Nat), bulkAll (xs.map (·.1)) + 1 ≤ bulk x.1 ∧ cs.length = P.cellsOf t ∧ xs.length = fs.size ∧
      ∀ (i : Nat) (f : Field), fs[i]? = some f → DataW.trod enc P w 0 spare held n f.type ((cs.drop f.offset).take (P.cellsOf f.type)) = xs[i]? := by
  obtain ⟨xs, n, _, rfl, h1, h2, h3⟩ := DataW.trod_struct ht h
  exact ⟨xs, n, by simp [bulk], h1, h2, h3⟩

theorem below_of_touch {w w' : World} (T : Touch w w' (fun _ => False)) : Below w.heap.size w w' := ⟨T.os, T.tape, T.output, T.size, fun k hk => T.block k hk (fun h => h)⟩

theorem trodAll_below {W W' : World} (hl : laidOutB P = true) (bel : Below W.heap.size W W') : ∀ (ts : List TypeId) (vs : List Value) (ds : List (DataW H)) (ps : List MemPlace), (∀ t ∈ ts, P.readableRec t = true ∧ t < P.types.size) →
    DataW.TrodAll enc P W 0 (fun _ => true) true ts vs ds ps → (∀ x ∈ ps, x.block < W.heap.size) → DataW.TrodAll enc P W' 0 (fun b => decide (b < W.heap.size)) true ts vs ds ps
  | [], [], [], ps, _, h, _ => h
  | t :: ts, v :: vs, d :: ds, ps, hr, h, hlt => by
    obtain ⟨p, q, h1, h2, rfl⟩ := h
    refine ⟨p, q, Below.trod hl (hr t (List.mem_cons_self ..)).1 (hr t (List.mem_cons_self ..)).2 h1 bel (fun x hx => hlt x (List.mem_append_left _ hx)), ?_, rfl⟩
    exact trodAll_below hl bel ts vs ds q (fun t ht => hr t (List.mem_cons_of_mem _ ht)) h2 (fun x hx => hlt x (List.mem_append_right _ hx))
  | [], _ :: _, _, _, _, h, _ => h.elim
  | [], [], _ :: _, _, _, h, _ => h.elim
  | _ :: _, [], _, _, _, h, _ => h.elim
  | _ :: _, _ :: _, [], _, _, h, _ => h.elim

/-- A law that answered true and changed nothing. -/
theorem post_true {f : Func} {s : ChangeSpec} {W W' : World} {args : Array Value} {ds gs : List (DataW H)} {before : List MemPlace} {tb : TypeId}
    (hW : DataW.Whole enc P f.params.toList s.vars false W args.toList ds gs before) (hvars : s.vars = []) (hfn : s.fn H (ds ++ gs) = { results := [.lit (.bool true)], args := ds }) (hres : f.resultTypes = #[tb]) (hb : P.underlying tb = some .bool)
    (hl : laidOutB P = true) (hr : ∀ t ∈ f.params.toList, P.readableRec t = true ∧ t < P.types.size) (bel : Below W.heap.size W W') :
    s.post enc P f false true false false W args (.bool true) W' := by
  have hlt := hW.lt
  have hW' := hW
  obtain ⟨p, q, hA, hV, rfl, hfz, hnd⟩ := hW
  rw [hvars] at hV
  obtain ⟨rfl, rfl⟩ := trodVars_none hV
  rw [List.append_nil] at hW' hlt
  refine ⟨ds, [], p, [], p, [], hW', ?_, ?_, ?_, bel.frame _, fun h => by cases h⟩
  · rw [hfn, hres]
    exact trodAll_mk1 (shut_bool hb _)
  · rw [hfn]
    exact trodAll_below hl bel _ _ _ _ hr hA (fun x hx => hlt x hx)
  · rw [hvars, hfn]
    rfl
end
end Go.Ab

/- Short steps: what the walk does alike at every place, told once. -/
namespace Go.Ab
set_option linter.unusedVariables false
set_option linter.unusedSimpArgs false
abbrev vS (s : Str) : AV := .v (.string (bs s))
abbrev vI (n : Int) : AV := .v (.int .i64 n)
abbrev vU (n : Int) : AV := .v (.int .u64 n)
abbrev vW (n : Int) : AV := .v (.int .u8 n)
abbrev vB (b : Bool) : AV := .v (.bool b)
abbrev vN : AV := .v (.slice none 0 0)
abbrev sL {α : Type} (f : α → List AV) (l : List α) : AV := .sl (l.map f)
/-- What a walk knows of the program: its types, and that orders may be mixed. -/
structure GG (P : Program) (G : Gm) : Prop where
  ty : TyOk P G.tys
  mx : P.follows .mixedOrders = true
/-- A count. -/
structure NN (n : Nat) : Prop where
theorem NN.d {n : Nat} (h : NN (n + 1)) : NN n := ⟨⟩
theorem LeH.s {H r s : List Ob} {a : Ob} (t : LeH H r s) : LeH H (a :: r) (a :: s) := .cons (.same rfl) t
theorem LeH.g {H r s : List Ob} {a : Ob} (t : LeH H r s) : LeH H (a :: r) (.gone :: s) := .cons .gone t
theorem LeRs.s {S : St} {t b r} (k : LeRs S r) (h : S.regs t = b := by rfl) : LeRs S ((t, b) :: r) := .cons (.one (.same h)) k
theorem LeRs.d {S : St} {t r} (k : LeRs S r) : LeRs S ((t, .dead) :: r) := .cons (.one .dead) k
theorem LeRs.n {S : St} {t r} (k : LeRs S r) (h : S.regs t = .v (.slice none 0 0) := by rfl) : LeRs S ((t, .sl []) :: r) := .cons (.one (by rw [h]; exact .nil)) k
theorem LeRs.f {S : St} {t r o n sz xs} (k : LeRs S r) (h : S.regs t = .row o n := by rfl) (h1 : S.heap[o]? = some (.frz sz xs) := by rfl) (h2 : n = xs.length := by rfl) : LeRs S ((t, .sl xs) :: r) := .cons (.one (by rw [h]; exact .frz h1 h2)) k
theorem bL : (∀ b, (b || true) = true) ∧ (∀ b, (true || b) = true) ∧ (∀ b, (false || b) = b) ∧ (∀ b, (b || false) = b) ∧ (∀ b, (b && true) = b) ∧ (∀ b, (true && b) = b) ∧ (∀ b, (b && false) = false) ∧ (∀ b, (false && b) = false) ∧ (!true) = false ∧ (!false) = true ∧ (∀ (α : Type) (x y : α), (if True then x else y) = x) ∧ (∀ (α : Type) (x y : α), (if False then x else y) = y) ∧ (false = true) = False := by simp
/-- What a test has told. -/
theorem LeRs.q {S : St} {t b r} (k : LeRs S r) (h : S.regs t = b := by
  first
    | rfl
    | exact congrArg (AV.row _) (by simp)
    | exact congrArg (fun n => AV.rptr _ n _ _ _) (by simp)
    | exact congrArg (fun n => AV.vw _ n _ _ _) (by simp)
    | (show AV.v _ = AV.v _; simp [i1]; done)
    | (show AV.v _ = AV.v _; simp [i1, i2]; done)
    | (show AV.v _ = AV.v _; simp [i1, i2, i3]; done)
    | (show AV.v _ = AV.v _; simp [i1, i2, i3, i4]; done)
    | (show AV.v _ = AV.v _; simp [i1, i2, i3, i4, i5]; done)
    | (show AV.v _ = AV.v _; simp [i1, i2, i3, i4, i5, i6]; done)
    | (show AV.v _ = AV.v _; simp [i1, i2, i3, i4, i5, i6, i7]; done)
    | (show AV.v _ = AV.v _; simp [i1, i2, i3, i4, i5, i6, i7, i8]; done)
    | (show AV.v _ = AV.v _; simp [i1, i2, i3, i4, i5, i6, i7, i8, i9]; done)
    | (show AV.v _ = AV.v _; simp only [i1, bL]; done)
    | (show AV.v _ = AV.v _; simp only [i1, i2, bL]; done)
    | (show AV.v _ = AV.v _; simp only [i1, i2, i3, bL]; done)
    | (show AV.v _ = AV.v _; simp only [i1, i2, i3, i4, bL]; done)
    | (show AV.v _ = AV.v _; simp only [i1, i2, i3, i4, i5, bL]; done)
    | (show AV.v _ = AV.v _; simp only [i1, i2, i3, i4, i5, i6, bL]; done)
    | (show AV.v _ = AV.v _; simp only [i1, i2, i3, i4, i5, i6, i7, bL]; done)
    | (show AV.v _ = AV.v _; simp only [i1, i2, i3, i4, i5, i6, i7, i8, bL]; done)
    | (show AV.v _ = AV.v _; simp only [i1, i2, i3, i4, i5, i6, i7, i8, i9, bL]; done)
    | (show AV.v _ = AV.v _; simp only [i1, bL]; rfl)
    | (show AV.v _ = AV.v _; simp only [i1, i2, bL]; rfl)
    | (show AV.v _ = AV.v _; simp only [i1, i2, i3, bL]; rfl)
    | (exfalso; revert i1; simp +contextual; done)
    | (exfalso; revert i1 i2; simp +contextual; done)
    | (exfalso; revert i1 i2 i3; simp +contextual; done)
    | (exfalso; revert i1 i2 i3 i4; simp +contextual; done)
    | (exfalso; revert i1 i2 i3 i4 i5; simp +contextual; done)
    | (exfalso; revert i1 i2 i3 i4 i5 i6; simp +contextual; done)
    | (exfalso; revert i1 i2 i3 i4 i5 i6 i7; simp +contextual; done)
    | (exfalso; revert i1 i2 i3 i4 i5 i6 i7 i8; simp +contextual; done)
    | (exfalso; revert i1 i2 i3 i4 i5 i6 i7 i8 i9; simp +contextual; done)) : LeRs S ((t, b) :: r) := .cons (.one (.same h)) k
theorem wA {p : Prop} (k : p := by exact weak_fin _ rfl rfl rfl .rest (.all rfl) rfl rfl) : p := k
section
variable {P : Program} {G : Gm} {S S' : St} {Q : Exit → St → Prop}
theorem wF {n b : Nat} {l : List (Nat × AV)} {H D : List Ob} (hh : LeH S.heap S.heap (H ++ D)) (hr : LeRs S l) (hn : S.n = n := by rfl) (hb : S.base = b := by rfl) (hbm : Nat.ble b H.length = true := by rfl)
    (hs : withinObs H.length H = true := by rfl) (hl : withins H.length (l.map (·.2)) = true := by rfl) : Weak S ⟨n, b, ofRegs l, H⟩ := weak_fin D hn hb hbm hh hr hs hl
theorem wI {p : Prop} (k : p := by
  refine wF .rest ?_
  repeat (first | exact .all rfl | refine .s ?_ | refine .q ?_)) : p := k
theorem GG.run {c : Code} (g : GG P G) (h : Go.Ab.run P G c S Q) : Tri P c S Q := Tri.run g.ty g.mx h
theorem GG.a1 (g : GG P G) (h : Go.Ab.run P G .skip S Q) : Tri P .skip S Q := g.run h
theorem GG.a2 {i} (g : GG P G) (h : Go.Ab.run P G (.exit i) S Q) : Tri P (.exit i) S Q := g.run h
theorem GG.a3 (g : GG P G) (h : Go.Ab.run P G .ret S Q) : Tri P .ret S Q := g.run h
theorem GG.a4 {a b c} (g : GG P G) (h : Go.Ab.run P G (.region a b c) S Q) : Tri P (.region a b c) S Q := g.run h
theorem GG.a5 {i} (g : GG P G) (h : Go.Ab.run P G (.label i) S Q) : Tri P (.label i) S Q := g.run h
/-- As far as it goes by itself. -/
theorem go {p q : Prop} (hq : q) (k : q → p := by
  intro hq
  (try conv => whnf)
  repeat (first
    | refine Tri.seqK ?_
    | refine Tri.block ?_
    | (refine GG.a4 g ?_; conv => whnf)
    | (refine GG.a2 g ?_; conv => whnf)
    | (refine GG.a3 g ?_; conv => whnf)
    | (refine GG.a1 g ?_; conv => whnf)
    | refine Tri.scope ?_
    | (refine GG.a5 g ?_; conv => whnf))
  exact hq) : p := k hq
/-- So many steps. -/
theorem gN (n : Nat) {p q : Prop} (hq : q) (k : NN n → q → p := by
  intro n0 hq
  (try conv => whnf)
  repeat (first
    | (replace n0 := n0.d; refine Tri.seqK ?_)
    | (replace n0 := n0.d; refine Tri.block ?_)
    | (replace n0 := n0.d; refine GG.a4 g ?_; conv => whnf)
    | (replace n0 := n0.d; refine GG.a2 g ?_; conv => whnf)
    | (replace n0 := n0.d; refine GG.a3 g ?_; conv => whnf)
    | (replace n0 := n0.d; refine GG.a1 g ?_; conv => whnf)
    | (replace n0 := n0.d; refine Tri.scope ?_)
    | (replace n0 := n0.d; refine GG.a5 g ?_; conv => whnf))
  exact hq) : p := k ⟨⟩ hq
theorem pW (hG : TyOk P G.tys) (hm : P.follows .mixedOrders = true) {g : FuncId} {fn : Func} (hf : P.funcs[g]? = some fn) {c : Code} {args : List AV} {K : AV → Prop}
    (hb : fn.body = some c) (h : GG P G → Tri P c ⟨fn.ntmps, 0, initRegs args, []⟩ (FinW (finP G fn.results.toList K))) (hn : (fn.name == "runtime.NumGoroutine") = false := by kernel_rfl) (hl : Nat.ble args.length fn.ntmps = true := by rfl) : PureP P g args K := pureW hG hf hb hn (Nat.le_of_ble_eq_true hl) (h ⟨hG, hm⟩)
theorem pC (hG : TyOk P G.tys) (hm : P.follows .mixedOrders = true) {g : FuncId} {fn : Func} (hf : P.funcs[g]? = some fn) {c : Code} {H : List Ob} {args : List AV} {K : AV → List Ob → Prop}
    (hb : fn.body = some c) (h : GG P G → Tri P c ⟨fn.ntmps, H.length, initRegs args, H⟩ (FinW (finC G fn.results.toList K))) (hn : (fn.name == "runtime.NumGoroutine") = false := by kernel_rfl) (hl : Nat.ble args.length fn.ntmps = true := by rfl) : CallP P g H args K := callW hG hf hb hn (Nat.le_of_ble_eq_true hl) (h ⟨hG, hm⟩)
theorem pE (hG : TyOk P G.tys) (hm : P.follows .mixedOrders = true) {g : FuncId} {fn : Func} (hf : P.funcs[g]? = some fn) {c : Code} {args : List AV} {el sz : Nat} {K : List (List AV) → Prop}
    (hb : fn.body = some c) (h : GG P G → Tri P c ⟨fn.ntmps, 0, initRegs args, []⟩ (FinW (finE G fn.results.toList el sz K))) (hn : (fn.name == "runtime.NumGoroutine") = false := by kernel_rfl) (hl : Nat.ble args.length fn.ntmps = true := by rfl) : FreshP P g args el sz K := freshW hG hf hb hn (Nat.le_of_ble_eq_true hl) (h ⟨hG, hm⟩)
/-! ### Tests -/
theorem cC {α : Type} {c : Operand} {x y : Code} {b : Bool} {m n : Option α} {r : α} (h : (if b = true then m else n) = some r) (hb : S.ev c = .v (.bool b)) (h1 : b = true → m = some r → Tri P x (refineC S c true) Q) (h2 : b = false → n = some r → Tri P y (refineC S c false) Q) : Tri P (.cond c x y) S Q :=
  Tri.cond hb (fun c => h1 c (if_t c h)) (fun c => h2 c (if_f c h))
theorem cD {c : Operand} {x y : Code} (b : Bool) (hb : S.ev c = .v (.bool b)) (h1 : b = true → Tri P x (refineC S c true) Q) (h2 : b = false → Tri P y (refineC S c false) Q) : Tri P (.cond c x y) S Q := Tri.cond hb h1 h2
theorem cM {α : Type} {b : Bool} {m n : Option α} {r : α} (h : (if b = true then m else n) = some r) {t e : Prop} (h1 : b = true → m = some r → t) (h2 : b = false → n = some r → e) : @Bool.rec (fun _ => Prop) e t b := cond_mk (fun c => h1 c (if_t c h)) (fun c => h2 c (if_f c h))
theorem cK (b : Bool) {t e : Prop} (h1 : b = true → t) (h2 : b = false → e) : @Bool.rec (fun _ => Prop) e t b := cond_mk h1 h2
/-! ### What the plain function says -/
theorem nD {α : Type} {φ : Prop} [Decidable φ] {m : Option α} {r : α} (h : need φ m = some r) {t : Prop} (k : φ → m = some r → t) : t := k (need_some h).1 (need_some h).2
theorem bD {α β : Type} {m : Option α} {f : α → Option β} {r : β} (h : m.bind f = some r) {t : Prop} (k : ∀ y, m = some y → f y = some r → t) : t := let ⟨y, h1, h2⟩ := bind_some h; k y h1 h2
theorem mP {g : FuncId} {args : List AV} {K : AV → Prop} {R : AV} (c : PureP P g args fun a => a = R) (k : K R) : PureP P g args K := c.mono (by rintro _ rfl; exact k)
theorem mF {g : FuncId} {args : List AV} {el sz : Nat} {K : List (List AV) → Prop} {R : List (List AV)} (c : FreshP P g args el sz fun a => a = R) (k : K R) : FreshP P g args el sz K := c.mono (by rintro _ rfl; exact k)
theorem mE {g : FuncId} {args : List AV} {el sz : Nat} {xs} {K : List (List AV) → Prop} {R : List (List AV)} (c : EatP P g el sz xs args fun a => a = R) (k : K R) : EatP P g el sz xs args K := c.mono (by rintro _ rfl; exact k)
theorem cP {α β : Type} {m : Option α} {f : α → Option β} {r : β} (h : m.bind f = some r) {g : FuncId} {args : List AV} {K : AV → Prop} {R : α → AV} (c : ∀ {y}, m = some y → PureP P g args fun a => a = R y) (k : ∀ y, f y = some r → K (R y)) : PureP P g args K :=
  let ⟨y, h1, h2⟩ := bind_some h; mP (c h1) (k y h2)
theorem cQ {α β : Type} {m : Option α} {f : α → Option β} {r : β} (h : m.bind f = some r) {g : FuncId} {args : List AV} {K : AV → Prop} {R : α → AV} (c : ∀ {y}, m = some y → PureP P g args fun a => a = R y) (k : ∀ y, m = some y → f y = some r → K (R y)) : PureP P g args K :=
  let ⟨y, h1, h2⟩ := bind_some h; mP (c h1) (k y h1 h2)
theorem cF {α β : Type} {m : Option α} {f : α → Option β} {r : β} (h : m.bind f = some r) {g : FuncId} {args : List AV} {el sz : Nat} {K : List (List AV) → Prop} {R : α → List (List AV)} (c : ∀ {y}, m = some y → FreshP P g args el sz fun a => a = R y) (k : ∀ y, f y = some r → K (R y)) : FreshP P g args el sz K :=
  let ⟨y, h1, h2⟩ := bind_some h; mF (c h1) (k y h2)
theorem mC {g : FuncId} {H0 L : List Ob} {args0 : List AV} {R : AV} (h : CallP P g H0 args0 fun r H' => r = R ∧ H'.take L.length = L) {H : List Ob} {args : List AV} {K : AV → List Ob → Prop} (ρ : List Nat) (hk : K (ren ρ R) (putObs ρ (renH ρ L) H))
    (hd : distinct ρ = true := by rfl) (hl : allLt H.length ρ = true := by rfl) (hL : L.length = ρ.length := by rfl) (hH : getObs H ρ = somes (renH ρ H0) := by rfl) (ha : rens ρ args0 = args := by rfl)
    (w1 : withins ρ.length args0 = true := by rfl) (w2 : withinObs ρ.length H0 = true := by rfl) (w3 : within ρ.length R = true := by rfl) (w4 : withinObs ρ.length L = true := by rfl) : CallP P g H args K := h.use ρ hd hl hL hH ha w1 w2 w3 w4 hk
theorem cU {α β : Type} {m : Option α} {f : α → Option β} {r : β} (h : m.bind f = some r) {g : FuncId} {H0 : List Ob} {L : α → List Ob} {args0 : List AV} {R : α → AV} (c : ∀ {y}, m = some y → CallP P g H0 args0 fun r H' => r = R y ∧ H'.take (L y).length = L y) {H : List Ob} {args : List AV} {K : AV → List Ob → Prop} (ρ : List Nat) (hk : ∀ y, f y = some r → K (ren ρ (R y)) (putObs ρ (renH ρ (L y)) H))
    (hd : distinct ρ = true := by rfl) (hl : allLt H.length ρ = true := by rfl) (hL : ∀ y, (L y).length = ρ.length := by intro y; rfl) (hH : getObs H ρ = somes (renH ρ H0) := by rfl) (ha : rens ρ args0 = args := by rfl)
    (w1 : withins ρ.length args0 = true := by rfl) (w2 : withinObs ρ.length H0 = true := by rfl) (w3 : ∀ y, within ρ.length (R y) = true := by intro y; rfl) (w4 : ∀ y, withinObs ρ.length (L y) = true := by intro y; rfl) : CallP P g H args K :=
  let ⟨y, h1, h2⟩ := bind_some h; (c h1).use ρ hd hl (hL y) hH ha w1 w2 (w3 y) (w4 y) (hk y h2)
/-! ### Ends -/
theorem eF {p : Prop} (k : p := by
  refine go ?_
  refine fin_here ?_
  conv => whnf
  repeat (refine ⟨rfl, ?_⟩; conv => whnf)
  cases h
  first | rfl | exact ⟨rfl, rfl⟩) : p := k
theorem eFw {p : Prop} (k : p := by
  refine go ?_
  refine fin_pre w ?_
  conv => whnf
  repeat (refine ⟨rfl, ?_⟩; conv => whnf)
  cases h
  first | rfl | exact ⟨rfl, rfl⟩) : p := k
theorem eP {f : Exit → St → Prop} {ex : Exit} (Z : St) (hw : Weak S Z) (k : f ex Z := by
  conv => whnf
  cases h
  first | rfl | exact ⟨rfl, rfl⟩) : FinW f ex S := fin_pre hw k
theorem cZ {p : Prop} (k : p := by refine go ?_; exact ⟨rfl, wA⟩) : p := k
theorem cI {p : Prop} (k : p := by refine go ?_; exact ⟨rfl, wI⟩) : p := k
theorem cA {p : Prop} (k : p := by refine go ?_; exact wA) : p := k
theorem cE {p : Prop} (k : p := by refine go ?_; cases h; exact ⟨rfl, wA⟩) : p := k
theorem cEw {p : Prop} (k : p := by refine go ?_; cases h; exact ⟨rfl, Weak.trans w wA⟩) : p := k
theorem cN {p : Prop} (k : p := by refine go ?_; cases h; exact ⟨_, rfl, wA⟩) : p := k
theorem cNw {p : Prop} (k : p := by refine go ?_; cases h; exact ⟨_, rfl, Weak.trans w wA⟩) : p := k
theorem xE {p : Prop} (k : p := by refine go ?_; cases h; obtain rfl := r _ rfl; exact ⟨rfl, wA⟩) : p := k
theorem xEw {p : Prop} (k : p := by refine go ?_; cases h; obtain rfl := r _ rfl; exact ⟨rfl, Weak.trans w wA⟩) : p := k
/-! ### Where ways meet -/
theorem wk {c : Code} (hw : Weak S S') (h : Tri P c S' Q) : Tri P c S Q := Tri.weak hw h
theorem k0 {x y : Code} (Z : St) (a : Tri P x S fun ex S' => ex = .normal ∧ Weak S' Z) (b : Tri P y Z Q) : Tri P (.seq x y) S Q := by
  refine Tri.seqK (Tri.cut _ a ?_)
  rintro ex S' ⟨rfl, w⟩
  exact Tri.weak w b
theorem k1 {α β : Type} {m : Option α} {f : α → Option β} {r : β} (h : m.bind f = some r) {x y : Code} (Z : α → St) (a : ∀ y, m = some y → Tri P x S fun ex S' => ex = .normal ∧ Weak S' (Z y)) (b : ∀ v, f v = some r → Tri P y (Z v) Q) : Tri P (.seq x y) S Q :=
  let ⟨v, h1, h2⟩ := bind_some h; k0 (Z v) (a v h1) (b v h2)
/-- One way's end: the exit, the state. -/
def aO {α : Type} (x : Exit) (Z : α → St) (y : α) (ex : Exit) (S' : St) : Prop := ex = x ∧ Weak S' (Z y)
theorem bO {α β : Type} {f : α → Option β} {r : β} {x : Exit} {Z : α → St} (b : ∀ v S', f v = some r → Weak S' (Z v) → Q x S') : ∀ y ex S', f y = some r → aO x Z y ex S' → Q ex S' := by
  rintro y ex S' h ⟨rfl, w⟩
  exact b y S' h w
theorem bE {α α' β : Type} {f : α ⊕ α' → Option β} {r : β} {A : α → Exit → St → Prop} {B : α' → Exit → St → Prop} (b1 : ∀ v ex S', f (.inl v) = some r → A v ex S' → Q ex S') (b2 : ∀ v ex S', f (.inr v) = some r → B v ex S' → Q ex S') : ∀ y ex S', f y = some r → Sum.elim A B y ex S' → Q ex S'
  | .inl v => b1 v
  | .inr v => b2 v
theorem kQ {α β : Type} {m : Option α} {f : α → Option β} {r : β} (h : m.bind f = some r) {c : Code} (A : α → Exit → St → Prop) (a : ∀ y, m = some y → Tri P c S (A y)) (b : ∀ y ex S', f y = some r → A y ex S' → Q ex S') : Tri P c S Q :=
  let ⟨y, h1, h2⟩ := bind_some h; (a y h1).mono fun ex S' => b y ex S' h2
theorem kS {α β : Type} {m : Option α} {f : α → Option β} {r : β} (h : m.bind f = some r) {c d : Code} (A : α → Exit → St → Prop) (a : ∀ y, m = some y → Tri P c S (A y)) (b : ∀ y ex S', f y = some r → A y ex S' → match ex with | .normal => Tri P d S' Q | ex => Q ex S') : Tri P (.seq c d) S Q := Tri.seqK (kQ (Q := fun ex S' => match ex with | .normal => Tri P d S' Q | ex => Q ex S') h A a b)
theorem lQ {σ α β : Type} {step : σ → Option (σ ⊕ α)} {s0 : σ} {f : α → Option β} {r : β} (h : (Go.Ab.loop step s0).bind f = some r) {c : Code} (F : σ → St) (A : α → Exit → St → Prop) (h0 : Weak S (F s0))
    (a : ∀ y s v, step s = some v → (∀ r', v = .inr r' → r' = y) → Tri P c (F s) fun ex S' => match ex with | .normal => ∃ s', v = .inl s' ∧ Weak S' (F s') | ex => A y ex S') (b : ∀ y ex S', f y = some r → A y ex S' → Q ex S') : Tri P (.loop c) S Q :=
  let ⟨y, h1, h2⟩ := bind_some h; (Tri.loopF (Q := A y) F h1 h0 (a y)).mono fun ex S' => b y ex S' h2
end
end Go.Ab
