/- From a row of the statements to the plain side: what is read of the arguments is plain data, held as the walks want it; and behind the call it reads as before. -/
import Derived.Test.YthhddlhgkejhbaaStAbsY
import Derived.JoinedCond
import Derived.Carry
import Derived.OpenShut
import Derived.ProofKit
namespace Go.Ab
open Go.ChangeShapes Go.WideShapes Go.ChangeAt Go.RowKit
set_option linter.unusedVariables false
set_option linter.unusedSimpArgs false

/-- What stood when the call began. -/
def Old (w : World) (b : Nat) : Prop := b < w.heap.size

/-- These values hold these cells. -/
structure RepL (w : World) (cs : List Value) (l : List AV) : Prop where
  len : cs.length = l.length
  rep : ∀ (j : Nat) s, l[j]? = some s → Rep w (Old w) Env.nil s (cs.getD j undef)

mutual
def bulk {H : Type} : DataW H → Nat
  | .lit (.string bytes) => bytes.length + 1
  | .lit _ => 1
  | .nil => 1
  | .ptr d => bulk d + 1
  | .slice elems spare => bulkAll elems + bulkAll spare + 1
  | .agg parts => bulkAll parts + 1
  | _ => 0
def bulkAll {H : Type} : List (DataW H) → Nat
  | [] => 0
  | d :: r => bulk d + bulkAll r
end

def okK (k : IntKind) (n : Int) : Prop := k.min ≤ n ∧ n ≤ k.max
def sumOf {α : Type} (f : α → Nat) : List α → Nat
  | [] => 0
  | x :: r => f x + sumOf f r

section
variable {H : Type} {enc : TypeId × Value → H} {P : Program} {w : World} {spare : Nat → Bool} {held : Bool} {fuel : Nat} {cs : List Value} {x : DataW H × List MemPlace}

theorem RepL.one {a : AV} {v : Value} (h : Rep w (Old w) Env.nil a v) : RepL w [v] [a] := by
  refine ⟨rfl, fun j s hj => ?_⟩
  cases j with
  | zero => simp at hj; subst hj; exact h
  | succ j => simp at hj

theorem RepL.nil : RepL w (cs.drop cs.length) [] := ⟨by simp, fun j s hj => by simp at hj⟩
theorem RepL.app {o k : Nat} {l r : List AV} (hk : l.length = k) (h : RepL w ((cs.drop o).take k) l) (t : RepL w (cs.drop (o + k)) r) : RepL w (cs.drop o) (l ++ r) := by
  have h1 := h.len
  have h2 := t.len
  rw [List.length_take, hk] at h1
  rw [List.length_drop] at h2
  have h3 : (cs.drop o).length = cs.length - o := List.length_drop
  refine ⟨by rw [List.length_append, hk, List.length_drop]; omega, fun j s hj => ?_⟩
  rcases Nat.lt_or_ge j l.length with hlt | hge
  · rw [List.getElem?_append_left hlt] at hj
    have := h.rep j s hj
    rw [List.getD_eq_getElem?_getD, List.getElem?_take_of_lt (by omega)] at this
    rw [List.getD_eq_getElem?_getD]
    exact this
  · rw [List.getElem?_append_right hge] at hj
    have := t.rep _ s hj
    rw [List.getD_eq_getElem?_getD, List.getElem?_drop] at this
    rw [List.getD_eq_getElem?_getD, List.getElem?_drop]
    have e : o + k + (j - l.length) = o + j := by omega
    rw [e] at this
    exact this

theorem RepL.cons {a : AV} {v : Value} {l : List AV} {vs : List Value} (h : Rep w (Old w) Env.nil a v) (r : RepL w vs l) : RepL w (v :: vs) (a :: l) := by
  refine ⟨by simp [r.len], fun j s hj => ?_⟩
  cases j with
  | zero => simp at hj; subst hj; exact h
  | succ j => simp at hj; simpa using r.rep j s hj
theorem RepL.none : RepL w [] [] := ⟨rfl, fun j s hj => by simp at hj⟩
theorem RepL.fst {a : AV} {v : Value} (h : RepL w [v] [a]) : Rep w (Old w) Env.nil a v := h.rep 0 a rfl
theorem RepL.agg {vs : Array Value} {l : List AV} (h : RepL w vs.toList l) : Rep w (Old w) Env.nil (.agg l) (.agg vs) :=
  .agg (by simpa using h.len) (fun j s hj => by have := h.rep j s hj; rw [List.getD_eq_getElem?_getD, Array.getElem?_toList] at this; rw [Array.getD_eq_getD_getElem?]; exact this)
theorem RepL.cells {vs : List Value} {l : List AV} (h : RepL w vs l) : RepCells w (Old w) Env.nil l vs.toArray :=
  ⟨by simpa using h.len, fun j s hj => by have := h.rep j s hj; rw [List.getD_eq_getElem?_getD] at this; rw [Array.getD_eq_getD_getElem?]; simpa using this⟩
theorem arg_agg {t : TypeId} {fs : Array Field} {v : Value} {d : DataW H} {ps : List MemPlace} {r : Reach} {b0 : Nat} (ht : P.underlying t = some (.struct fs)) (hval : Value.okWide P w r b0 t v) (hd : DataW.Trod enc P w 0 spare held t v d ps) :
    ∃ vs fuel, v = .agg vs ∧ DataW.trod enc P w 0 spare held fuel t vs.toList = some (d, ps) := by
  obtain ⟨vs, rfl, _⟩ := okWide_struct ht hval
  obtain ⟨fuel, h⟩ := hd
  exact ⟨vs, fuel, rfl, h⟩
theorem arg_slice {t e : TypeId} {v : Value} {d : DataW H} {ps : List MemPlace} {r : Reach} {b0 : Nat} (ht : P.underlying t = some (.slice e)) (hval : Value.okWide P w r b0 t v) (hd : DataW.Trod enc P w 0 spare held t v d ps) :
    ∃ fuel, DataW.trod enc P w 0 spare held fuel t [v] = some (d, ps) := by
  obtain ⟨a, l, c, rfl⟩ := okWide_slice ht hval
  exact hd
theorem arg_int {t : TypeId} {k : IntKind} {v : Value} {d : DataW H} {ps : List MemPlace} {r : Reach} {b0 : Nat} (ht : P.underlying t = some (.int k)) (hval : Value.okWide P w r b0 t v) (hd : DataW.Trod enc P w 0 spare held t v d ps) :
    ∃ fuel, DataW.trod enc P w 0 spare held fuel t [v] = some (d, ps) := by
  obtain ⟨n, rfl⟩ := okWide_int ht hval
  exact hd
theorem arg_bool {t : TypeId} {v : Value} {d : DataW H} {ps : List MemPlace} {r : Reach} {b0 : Nat} (ht : P.underlying t = some .bool) (hval : Value.okWide P w r b0 t v) (hd : DataW.Trod enc P w 0 spare held t v d ps) :
    ∃ fuel, DataW.trod enc P w 0 spare held fuel t [v] = some (d, ps) := by
  obtain ⟨n, rfl⟩ := okWide_bool ht hval
  exact hd
theorem arg_string {t : TypeId} {v : Value} {d : DataW H} {ps : List MemPlace} {r : Reach} {b0 : Nat} (ht : P.underlying t = some .string) (hval : Value.okWide P w r b0 t v) (hd : DataW.Trod enc P w 0 spare held t v d ps) :
    ∃ fuel, DataW.trod enc P w 0 spare held fuel t [v] = some (d, ps) := by
  obtain ⟨n, rfl⟩ := okWide_string ht hval
  exact hd

theorem rd_int {t : TypeId} {k : IntKind} (ht : P.underlying t = some (.int k)) (h : DataW.trod enc P w 0 spare held fuel t cs = some x) : ∃ n : Int, RepL w cs [.v (.int k n)] ∧ okK k n ∧ 1 ≤ bulk x.1 := by
  obtain ⟨n, rfl, rfl, hw⟩ := DataW.trod_int ht h
  refine ⟨n, .one .v, ?_, by simp [bulk]⟩
  simpa [Lit.wf, okK] using hw
theorem rd_bool {t : TypeId} (ht : P.underlying t = some .bool) (h : DataW.trod enc P w 0 spare held fuel t cs = some x) : ∃ b : Bool, RepL w cs [.v (.bool b)] ∧ 1 ≤ bulk x.1 := by
  obtain ⟨b, rfl, rfl⟩ := DataW.trod_bool ht h
  exact ⟨b, .one .v, by simp [bulk]⟩
theorem rd_str {t : TypeId} (ht : P.underlying t = some .string) (h : DataW.trod enc P w 0 spare held fuel t cs = some x) : ∃ s : Str, RepL w cs [.v (.string (bs s))] ∧ s.length + 1 ≤ bulk x.1 := by
  obtain ⟨s, rfl, rfl, hw⟩ := DataW.trod_string ht h
  exact ⟨s.data.toList, .one (by rw [bs_of]; exact .v), by simp [bulk]⟩

theorem bulkAll_append (l r : List (DataW H)) : bulkAll (l ++ r) = bulkAll l + bulkAll r := by
  induction l with
  | nil => simp [bulkAll]
  | cons x l ih => simp only [List.cons_append, bulkAll, ih]; omega

theorem cells_get {a : Addr} {n : Nat} {cs : List Value} (h : w.cells? 0 a n = some cs) : cs.length = n ∧ ∀ j, j < n → w.cell? (a.add j) = some (cs.getD j undef) := by
  unfold World.cells? at h
  rw [if_pos (Nat.zero_le _)] at h
  have hl := mapM_some_length h
  refine ⟨by simpa using hl, fun j hj => ?_⟩
  have := mapM_some_get h j j (by simp [hj])
  rw [this, List.getD_eq_getElem?_getD]
  have hlt : j < cs.length := by rw [hl]; simpa using hj
  rw [List.getElem?_eq_getElem hlt]
  rfl

theorem rd_slice {α : Type} {encα : α → List AV} {ok : α → Prop} {bk : α → Nat} {t e : TypeId} {sz : Nat} (ht : P.underlying t = some (.slice e)) (hsz : P.cellsOf e = sz) (hpos : 0 < sz) (henc : ∀ v, (encα v).length = sz) (hone : ∀ v, ones (encα v) = true)
    (hel : ∀ (fuel : Nat) (cs : List Value) (x : DataW H × List MemPlace), DataW.trod enc P w 0 spare held fuel e cs = some x → ∃ v, RepL w cs (encα v) ∧ ok v ∧ bk v ≤ bulk x.1)
    (h : DataW.trod enc P w 0 spare held fuel t cs = some x) : ∃ l : List α, RepL w cs [.sl (l.map encα)] ∧ (∀ v ∈ l, ok v) ∧ sumOf bk l + 1 ≤ bulk x.1 := by
  rcases DataW.trod_slice ht h with ⟨rfl, rfl⟩ | ⟨a, len, cap, elems, rest, n, rfl, rfl, rfl, _, hle, hmx, hlen, hget, _, _⟩
  · refine ⟨[], .one ?_, by simp, by simp [sumOf, bulk]⟩
    exact .sl 0 default (fun _ _ => undef) (Nat.le_refl 0) (fun h => absurd rfl h) (fun i cs h => by simp at h) (fun i cs h => by simp at h) (fun i cs j s h => by simp at h) (fun i cs j s h => by simp at h)
  · -- the elements, one by one
    have hex : ∀ i, i < len → ∃ (v : α) (cs : List Value) (y : DataW H × List MemPlace), elems[i]? = some y ∧ w.cells? 0 (a.add (i * P.cellsOf e)) (P.cellsOf e) = some cs ∧ RepL w cs (encα v) ∧ ok v ∧ bk v ≤ bulk y.1 := by
      intro i hi
      have h1 := hget i hi
      have hlt : i < elems.length := by omega
      rw [List.getElem?_eq_getElem hlt] at h1
      obtain ⟨cs, h2, h3⟩ := Option.bind_eq_some_iff.1 h1
      obtain ⟨v, h4, h5, h6⟩ := hel _ _ _ h3
      exact ⟨v, cs, _, List.getElem?_eq_getElem hlt, h2, h4, h5, h6⟩
    have key : ∀ m, m ≤ len → ∃ l : List α, l.length = m ∧ (∀ v ∈ l, ok v) ∧ sumOf bk l ≤ bulkAll ((elems.map (·.1)).take m) ∧
        ∀ i v, l[i]? = some v → ∃ cs, w.cells? 0 (a.add (i * P.cellsOf e)) (P.cellsOf e) = some cs ∧ RepL w cs (encα v) := by
      intro m
      induction m with
      | zero => intro _; exact ⟨[], rfl, by simp, by simp [sumOf], fun i v h => by simp at h⟩
      | succ m ih =>
        intro hm
        obtain ⟨l, h1, h2, h3, h4⟩ := ih (by omega)
        obtain ⟨v, cs, y, h5, h6, h7, h8, h9⟩ := hex m (by omega)
        refine ⟨l ++ [v], by simp [h1], ?_, ?_, ?_⟩
        · intro u hu
          rcases List.mem_append.1 hu with hu | hu
          · exact h2 u hu
          · simp at hu; subst hu; exact h8
        · have hs : sumOf bk (l ++ [v]) = sumOf bk l + bk v := by
            clear h1 h2 h3 h4
            induction l with
            | nil => simp [sumOf]
            | cons u r ih => simp only [List.cons_append, sumOf, ih]; omega
          have ht : (elems.map (·.1)).take (m + 1) = (elems.map (·.1)).take m ++ [y.1] := by
            rw [List.take_add_one, List.getElem?_map, h5]; rfl
          rw [hs, ht, bulkAll_append]
          simp only [bulkAll]
          omega
        · intro i u hi
          rcases Nat.lt_or_ge i l.length with hlt | hge
          · rw [List.getElem?_append_left hlt] at hi; exact h4 i u hi
          · rw [List.getElem?_append_right hge] at hi
            have : i = m := by
              have := (List.getElem?_eq_some_iff.1 hi).1
              simp at this; omega
            subst this
            rw [h1, Nat.sub_self] at hi
            simp at hi
            subst hi
            exact ⟨cs, h6, h7⟩
    obtain ⟨l, h1, h2, h3, h4⟩ := key len (Nat.le_refl _)
    have ha : l ≠ [] → a.block < w.heap.size ∧ a.spot = none ∨ True := fun _ => .inr trivial
    have hlm : (l.map encα).length = len := by rw [List.length_map]; exact h1
    refine ⟨l, .one ?_, h2, ?_⟩
    · have hcells : ∀ i v, l[i]? = some v → ∃ cs : List Value, cs.length = sz ∧ (∀ j, j < sz → w.cell? ((a.add (i * sz)).add j) = some (cs.getD j undef)) ∧ ∀ (j : Nat) s, (encα v)[j]? = some s → Rep w (Old w) Env.nil s (cs.getD j undef) := by
        intro i v hi
        obtain ⟨cs, h5, h6⟩ := h4 i v hi
        obtain ⟨h7, h8⟩ := cells_get h5
        rw [hsz] at h7 h8
        exact ⟨cs, h7, h8, h6.rep⟩
      by_cases hne : l = []
      · subst hne
        simp at h1
        subst h1
        exact .sl 0 default (fun _ _ => undef) (Nat.zero_le _) (fun h => absurd rfl h) (fun i cs h => by simp at h) (fun i cs h => by simp at h) (fun i cs j s h => by simp at h) (fun i cs j s h => by simp at h)
      · have hspot : a.spot = none := by
          obtain ⟨v, r, rfl⟩ := List.exists_cons_of_ne_nil hne
          obtain ⟨cs, h5, h6, _⟩ := hcells 0 v rfl
          have := h6 0 hpos
          simp only [Nat.zero_mul] at this
          have e0 : (a.add 0).add 0 = a := by simp [Addr.add]
          rw [e0] at this
          unfold World.cell? at this
          cases hs : a.spot with
          | none => rfl
          | some k =>
            rw [hs] at this
            split at this
            · simp at this
            · cases this
        have hblk : a.block < w.heap.size := by
          obtain ⟨v, r, rfl⟩ := List.exists_cons_of_ne_nil hne
          obtain ⟨cs, h5, h6, _⟩ := hcells 0 v rfl
          have := h6 0 hpos
          have hb := World.block_lt_of_cell? w _ this
          have e0 : ((a.add (0 * sz)).add 0).block = a.block := by simp [Addr.add]
          rw [e0] at hb
          exact hb
        have hadd : ∀ i j, (a.add (i * sz)).add j = ⟨a.block, a.off + i * sz + j, none⟩ := by
          intro i j
          have h1 : a.add (i * sz) = ⟨a.block, a.off + i * sz, none⟩ := by
            unfold Addr.add
            split
            · rename_i h; rw [h]; cases a; simp_all
            · rfl
          rw [h1]
          exact addr_add rfl j
        have hch : ∀ i, ∃ f : Nat → Value, ∀ v, l[i]? = some v → (∀ j, j < sz → w.cell? ⟨a.block, a.off + i * sz + j, none⟩ = some (f j)) ∧ ∀ (j : Nat) s, (encα v)[j]? = some s → Rep w (Old w) Env.nil s (f j) := by
          intro i
          cases hi : l[i]? with
          | none => exact ⟨fun _ => undef, fun v h => by cases h⟩
          | some v =>
            obtain ⟨cs, h5, h6, h7⟩ := hcells i v hi
            refine ⟨fun j => cs.getD j undef, fun u hu => ?_⟩
            injection hu with hu
            subst hu
            exact ⟨fun j hj => by rw [← hadd]; exact h6 j hj, h7⟩
        have hval : ∃ vals : Nat → Nat → Value, ∀ i v, l[i]? = some v → (∀ j, j < sz → w.cell? ⟨a.block, a.off + i * sz + j, none⟩ = some (vals i j)) ∧ ∀ (j : Nat) s, (encα v)[j]? = some s → Rep w (Old w) Env.nil s (vals i j) :=
          ⟨fun i => (hch i).choose, fun i => (hch i).choose_spec⟩
        obtain ⟨vals, hv⟩ := hval
        have hmap : ∀ (i : Nat) cs, (l.map encα)[i]? = some cs → ∃ v, l[i]? = some v ∧ cs = encα v := by
          intro i cs hi
          rw [List.getElem?_map] at hi
          cases hx : l[i]? with
          | none => rw [hx] at hi; cases hi
          | some v => rw [hx] at hi; exact ⟨v, rfl, by simpa using hi.symm⟩
        rw [← hlm]
        refine .sl sz a vals (by rw [hlm]; exact hle) (fun _ => ⟨rfl, hblk, hspot⟩) (fun i cs hi => ?_) (fun i cs hi => ?_) (fun i cs j s hi hj => ?_) (fun i cs j s hi hj => ?_)
        · obtain ⟨v, _, rfl⟩ := hmap i cs hi; exact henc v
        · obtain ⟨v, _, rfl⟩ := hmap i cs hi; exact hone v
        · obtain ⟨v, hx, rfl⟩ := hmap i cs hi
          refine (hv i v hx).1 j ?_
          rw [← henc v]; exact (List.getElem?_eq_some_iff.1 hj).1
        · obtain ⟨v, hx, rfl⟩ := hmap i cs hi
          exact (hv i v hx).2 j s hj
    · have : (elems.map (·.1)).take len = elems.map (·.1) := List.take_of_length_le (by simp [hlen])
      rw [this] at h3
      simp only [bulk]
      omega

/-- A struct's fields, in a row. -/
theorem fields_of {t : TypeId} {fs : Array Field} (ht : P.underlying t = some (.struct fs)) (h : DataW.trod enc P w 0 spare held fuel t cs = some x) :
    ∃ (xs : List (DataW H × List MemPlace)) (n : Nat), bulkAll (xs.map (·.1)) + 1 ≤ bulk x.1 ∧ cs.length = P.cellsOf t ∧ xs.length = fs.size ∧
      ∀ (i : Nat) (f : Field), fs[i]? = some f → DataW.trod enc P w 0 spare held n f.type ((cs.drop f.offset).take (P.cellsOf f.type)) = xs[i]? := by
  obtain ⟨xs, n, _, rfl, h1, h2, h3⟩ := DataW.trod_struct ht h
  exact ⟨xs, n, by simp [bulk], h1, h2, h3⟩

theorem below_of_touch {w w' : World} (T : Touch w w' (fun _ => False)) : Below w.heap.size w w' := ⟨T.os, T.tape, T.output, T.size, fun k hk => T.block k hk (fun h => h)⟩

theorem trodAll_below {W W' : World} (hl : laidOutB P = true) (bel : Below W.heap.size W W') : ∀ (ts : List TypeId) (vs : List Value) (ds : List (DataW H)) (ps : List MemPlace), (∀ t ∈ ts, P.readableRec t = true ∧ t < P.types.size) →
    DataW.TrodAll enc P W 0 (fun _ => true) true ts vs ds ps → (∀ x ∈ ps, x.block < W.heap.size) → DataW.TrodAll enc P W' 0 (fun b => decide (b < W.heap.size)) true ts vs ds ps
  | [], [], [], ps, _, h, _ => h
  | t :: ts, v :: vs, d :: ds, ps, hr, h, hlt => by
    obtain ⟨p, q, h1, h2, rfl⟩ := h
    refine ⟨p, q, Below.trod hl (hr t (List.mem_cons_self ..)).1 (hr t (List.mem_cons_self ..)).2 h1 bel (fun x hx => hlt x (List.mem_append_left _ hx)), ?_, rfl⟩
    exact trodAll_below hl bel ts vs ds q (fun t ht => hr t (List.mem_cons_of_mem _ ht)) h2 (fun x hx => hlt x (List.mem_append_right _ hx))
  | [], _ :: _, _, _, _, h, _ => h.elim
  | [], [], _ :: _, _, _, h, _ => h.elim
  | _ :: _, [], _, _, _, h, _ => h.elim
  | _ :: _, _ :: _, [], _, _, h, _ => h.elim

/-- A law that answered true and changed nothing. -/
theorem post_true {f : Func} {s : ChangeSpec} {W W' : World} {args : Array Value} {ds gs : List (DataW H)} {before : List MemPlace} {tb : TypeId}
    (hW : DataW.Whole enc P f.params.toList s.vars false W args.toList ds gs before) (hvars : s.vars = []) (hfn : s.fn H (ds ++ gs) = { results := [.lit (.bool true)], args := ds }) (hres : f.resultTypes = #[tb]) (hb : P.underlying tb = some .bool)
    (hl : laidOutB P = true) (hr : ∀ t ∈ f.params.toList, P.readableRec t = true ∧ t < P.types.size) (bel : Below W.heap.size W W') :
    s.post enc P f false true false false W args (.bool true) W' := by
  have hlt := hW.lt
  have hW' := hW
  obtain ⟨p, q, hA, hV, rfl, hfz, hnd⟩ := hW
  rw [hvars] at hV
  obtain ⟨rfl, rfl⟩ := trodVars_none hV
  rw [List.append_nil] at hW' hlt
  refine ⟨ds, [], p, [], p, [], hW', ?_, ?_, ?_, bel.frame _, fun h => by cases h⟩
  · rw [hfn, hres]
    exact trodAll_mk1 (shut_bool hb _)
  · rw [hfn]
    exact trodAll_below hl bel _ _ _ _ hr hA (fun x hx => hlt x hx)
  · rw [hvars, hfn]
    rfl
end
end Go.Ab
