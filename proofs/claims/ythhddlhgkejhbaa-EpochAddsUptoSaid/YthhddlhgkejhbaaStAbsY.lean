/- The walk's words about the plain side: texts as lists of bytes, slices of what is encoded, loops. -/
import Derived.Test.YthhddlhgkejhbaaStAbsX
import Derived.Test.YthhddlhgkejhbaaStAbsZ
import Derived.Test.YthhddlhgkejhbaaStAbsZc
import Derived.Test.YthhddlhgkejhbaaStFun
namespace Go.Ab
set_option linter.unusedVariables false
set_option linter.unusedSimpArgs false

def bs (l : Str) : ByteArray := ⟨⟨l⟩⟩
theorem bs_data (l : Str) : (bs l).data.toList = l := rfl
theorem bs_toList (l : Str) : (bs l).toList = l := by
  rw [ByteArray.toList_eq]; rfl
theorem bs_of (b : ByteArray) : bs b.data.toList = b := rfl
theorem bs_inj {a b : Str} (h : bs a = bs b) : a = b := by injection h with h; injection h
theorem bs_iff {a b : Str} : bs a = bs b ↔ a = b := ⟨bs_inj, fun h => h ▸ rfl⟩
theorem bs_append (a b : Str) : bs (a ++ b) = bs a ++ bs b := by
  apply ByteArray.ext
  rw [ByteArray.data_append]
  simp [bs]
theorem ofInts_eq (l : List Int) : bs (l.map u8) = ofInts l := by
  have key : ∀ (l : List Int) (b : ByteArray), (l.foldl (fun r n => r.push (UInt8.ofNat n.toNat)) b).data.toList = b.data.toList ++ l.map u8 := by
    intro l
    induction l with
    | nil => intro b; simp
    | cons n r ih => intro b; rw [List.foldl_cons, ih]; simp [ByteArray.push, u8]
  have h := key l ByteArray.empty
  have e : ByteArray.empty.data.toList = [] := rfl
  rw [e, List.nil_append] at h
  rw [← bs_of (ofInts l)]
  unfold ofInts
  rw [h]
theorem ofInts_eq' {l : List Int} : bs (l.map u8) = ofInts l := ofInts_eq l
theorem bs_size (l : Str) : ((bs l).size : Int) = l.length := rfl
theorem bs_eq (a b : Str) : decide (a = b) = decide (bs a = bs b) := by
  rw [decide_eq_decide]; exact ⟨fun h => h ▸ rfl, bs_inj⟩
theorem bs_ne (a b : Str) : (!decide (a = b)) = !decide (bs a = bs b) := by rw [bs_eq]
def ltS (a b : Str) : Bool := Op.bytesLess a b
theorem bs_lt (a b : Str) : ltS a b = ltB (bs a) (bs b) := by unfold ltS ltB; rw [bs_toList, bs_toList]
theorem bs_le (a b : Str) : (ltS a b || decide (a = b)) = (ltB (bs a) (bs b) || decide (bs a = bs b)) := by rw [bs_lt, bs_eq]
theorem bs_gt (a b : Str) : (!(ltS a b || decide (a = b))) = !(ltB (bs a) (bs b) || decide (bs a = bs b)) := by rw [bs_lt, bs_eq]
theorem bs_ge (a b : Str) : (!ltS a b) = !ltB (bs a) (bs b) := by rw [bs_lt]
/-- From i on, ahead of j. -/
def cut {α : Type} (l : List α) (i j : Int) : List α := (l.take j.toNat).drop i.toNat
theorem bs_cut (l : Str) (i j : Int) : bs (cut l i j) = (bs l).extract i.toNat j.toNat := by
  apply ByteArray.ext
  rw [ByteArray.data_extract]
  apply Array.ext'
  simp [bs, cut, List.drop_take]
theorem bs_at {l : Str} {i : Int} {c : UInt8} (h : ix l i = some c) : (c.toNat : Int) = ((byteAt (bs l) i.toNat).toNat : Int) := by
  have h1 := (ix_some h).2
  have hlt := (ix_lt h).2.2
  have : byteAt (bs l) i.toNat = c := by
    unfold byteAt
    rw [dif_pos (show i.toNat < (bs l).size from hlt)]
    have : (bs l)[i.toNat]'(show i.toNat < (bs l).size from hlt) = l[i.toNat] := rfl
    rw [this]
    rw [List.getElem?_eq_getElem hlt] at h1
    injection h1
  rw [this]
theorem bs_bound {l : Str} {i : Int} {c : UInt8} (h : ix l i = some c) : 0 ≤ i ∧ i.toNat < (bs l).size := ⟨(ix_lt h).1, (ix_lt h).2.2⟩

theorem del_list {α : Type} (xs : List α) (i j : Nat) (r : List α) (h1 : i ≤ j) (h2 : j ≤ xs.length) :
    List.take (i + (xs.length - j)) (List.take (i + (xs.length - j)) (List.take i xs ++ List.take (xs.length - j) (List.drop j xs) ++ List.drop (i + (xs.length - j)) xs) ++ r) = List.take i xs ++ List.drop j xs := by
  have e1 : List.take (xs.length - j) (List.drop j xs) = List.drop j xs := by
    apply List.take_of_length_le; simp
  have e2 : (List.take i xs ++ List.drop j xs).length = i + (xs.length - j) := by simp; omega
  rw [e1]
  have e3 : List.take (i + (xs.length - j)) (List.take i xs ++ List.drop j xs ++ List.drop (i + (xs.length - j)) xs) = List.take i xs ++ List.drop j xs := by
    rw [List.take_append_of_le_length (by omega), List.take_of_length_le (by omega)]
  rw [e3, List.take_append_of_le_length (by omega), List.take_of_length_le (by omega)]

/-! ### Rows of what is encoded -/
theorem map_get {α : Type} (f : α → List AV) {l : List α} {k : Nat} {x : α} (h : l[k]? = some x) : (l.map f)[k]? = some (f x) := by rw [List.getElem?_map, h]; rfl
theorem map_len {α : Type} {f : α → List AV} {n : Nat} (hf : ∀ x, (f x).length = n) (l : List α) : ∀ cs ∈ l.map f, cs.length = n := by
  intro cs h; obtain ⟨x, _, rfl⟩ := List.mem_map.1 h; exact hf x
theorem map_cut {α : Type} (f : α → List AV) (l : List α) (i j : Int) : (cut l i j).map f = ((l.map f).take j.toNat).drop i.toNat := by simp [cut, List.map_take, List.map_drop]
theorem map_set {α : Type} (f : α → List AV) (l : List α) (k : Nat) (x : α) {cs : List AV} (h : cs = f x) : (l.set k x).map f = (l.map f).set k cs := by rw [h, List.map_set]
theorem map_app {α : Type} (f : α → List AV) (l m : List α) {xs ys : List (List AV)} (h : xs = l.map f) (k : ys = m.map f) : (l ++ m).map f = xs ++ ys := by rw [h, k, List.map_append]
theorem len_map {α : Type} (f : α → List AV) (l : List α) : ((l.map f).length : Int) = l.length := by rw [List.length_map]

def encI (k : IntKind) (n : Int) : List AV := [.v (.int k n)]
def encB (b : Bool) : List AV := [.v (.bool b)]
def encS (s : Str) : List AV := [.v (.string (bs s))]

theorem LeH.rest {H r : List Ob} : LeH H r r := by
  induction r with
  | nil => exact .nil
  | cons a r ih => exact .cons (.same rfl) ih

/-- The end of a function, something let go ahead of it. -/
structure FinW (f : Exit → St → Prop) (ex : Exit) (S : St) : Prop where
  out : ∃ S', Weak S S' ∧ f ex S'
theorem fin_here {f : Exit → St → Prop} {ex : Exit} {S : St} (h : f ex S) : FinW f ex S := ⟨⟨S, Weak.refl S, h⟩⟩
theorem fin_pre {f : Exit → St → Prop} {ex : Exit} {S S' : St} (hw : Weak S S') (h : f ex S') : FinW f ex S := ⟨⟨S', hw, h⟩⟩
theorem Tri.ofW {P : Program} {c : Code} {S : St} {f : Exit → St → Prop} (h : Tri P c S (FinW f)) : Tri P c S f := by
  refine ⟨fun C a w F e hs => wp_mono (h.out C a w F e hs) ?_⟩
  rintro x a' w' ⟨S', F', e', hq, hs'⟩
  obtain ⟨S2, hw, hf⟩ := hq.out
  obtain ⟨F2, e2, h2⟩ := hw.out C a' w' F' e' hs'
  exact ⟨S2, F2, e2, hf, h2⟩
section
variable {P : Program} {G : Gm}
theorem pureW (hG : TyOk P G.tys) {g : FuncId} {fn : Func} {c : Code} (hf : P.funcs[g]? = some fn) (hb : fn.body = some c) (hn : (fn.name == "runtime.NumGoroutine") = false)
    {args : List AV} {K : AV → Prop} (hl : args.length ≤ fn.ntmps) (h : Tri P c ⟨fn.ntmps, 0, initRegs args, []⟩ (FinW (finP G fn.results.toList K))) : PureP P g args K := pure_of hG hf hb hn hl h.ofW
theorem callW (hG : TyOk P G.tys) {g : FuncId} {fn : Func} {c : Code} (hf : P.funcs[g]? = some fn) (hb : fn.body = some c) (hn : (fn.name == "runtime.NumGoroutine") = false)
    {H : List Ob} {args : List AV} {K : AV → List Ob → Prop} (hl : args.length ≤ fn.ntmps) (h : Tri P c ⟨fn.ntmps, H.length, initRegs args, H⟩ (FinW (finC G fn.results.toList K))) : CallP P g H args K := call_of hG hf hb hn hl h.ofW
theorem freshW (hG : TyOk P G.tys) {g : FuncId} {fn : Func} {c : Code} (hf : P.funcs[g]? = some fn) (hb : fn.body = some c) (hn : (fn.name == "runtime.NumGoroutine") = false)
    {args : List AV} {el sz : Nat} {K : List (List AV) → Prop} (hl : args.length ≤ fn.ntmps) (h : Tri P c ⟨fn.ntmps, 0, initRegs args, []⟩ (FinW (finE G fn.results.toList el sz K))) : FreshP P g args el sz K := fresh_of hG hf hb hn hl h.ofW
theorem eatW (hG : TyOk P G.tys) {g : FuncId} {fn : Func} {c : Code} (hf : P.funcs[g]? = some fn) (hb : fn.body = some c) (hn : (fn.name == "runtime.NumGoroutine") = false)
    {args : List AV} {el sz : Nat} {xs : List (List AV)} {K : List (List AV) → Prop} (hl : args.length + 1 ≤ fn.ntmps) (h : Tri P c ⟨fn.ntmps, 1, initRegs (.row 0 xs.length :: args), [.row el sz xs]⟩ (FinW (finE G fn.results.toList el sz K))) : EatP P g el sz xs args K := eat_of hG hf hb hn hl h.ofW
end

section
variable {P : Program} {S : St}
/-- A LOOP, by the plain loop. -/
theorem Tri.loopF {σ ρ : Type} {c : Code} {Q : Exit → St → Prop} {step : σ → Option (σ ⊕ ρ)} (Fam : σ → St) {s0 : σ} {r : ρ} (h : Go.Ab.loop step s0 = some r) (h0 : Weak S (Fam s0))
    (round : ∀ s y, step s = some y → (∀ r', y = .inr r' → r' = r) → Tri P c (Fam s) fun x S2 => match x with | .normal => ∃ s', y = .inl s' ∧ Weak S2 (Fam s') | x => Q x S2) : Tri P (.loop c) S Q := by
  obtain ⟨n, hn⟩ := loop_iff.1 h
  refine Tri.loop (fun n S => ∃ s, S = Fam s ∧ loopN step n s = some r) n (Fam s0) h0 ⟨s0, rfl, hn⟩ ?_
  rintro n S1 ⟨s, rfl, hs⟩
  cases n with
  | zero => cases hs
  | succ n =>
    unfold loopN at hs
    cases hy : step s with
    | none => rw [hy] at hs; cases hs
    | some y =>
      rw [hy] at hs
      refine (round s y hy ?_).mono ?_
      · rintro r' rfl; simp only at hs; injection hs
      · intro x S2 hx
        cases x with
        | normal =>
          obtain ⟨s', rfl, hw⟩ := hx
          exact ⟨Fam s', n, hw, ⟨s', rfl, hs⟩, by omega⟩
        | _ => exact hx

theorem Tri.cut {c : Code} {Q : Exit → St → Prop} (I : Exit → St → Prop) (h : Tri P c S I) (hq : ∀ ex S', I ex S' → Q ex S') : Tri P c S Q := h.mono hq
theorem Tri.condT {c : Operand} {x y : Code} {Q : Exit → St → Prop} (hb : S.ev c = .v (.bool true)) (h : Tri P x (refineC S c true) Q) : Tri P (.cond c x y) S Q := Tri.cond hb (fun _ => h) (fun h => by cases h)
theorem Tri.condF {c : Operand} {x y : Code} {Q : Exit → St → Prop} (hb : S.ev c = .v (.bool false)) (h : Tri P y (refineC S c false) Q) : Tri P (.cond c x y) S Q := Tri.cond hb (fun h => by cases h) (fun _ => h)
end
end Go.Ab
