/- Stores, new rows, append: what they do to what is ours. -/
import Derived.Test.YthhddlhgkejhbaaStAbsH
namespace Go.Ab
set_option linter.unusedVariables false
set_option linter.unusedSimpArgs false
section
variable {P : Program} {C : Ctx} {H H' : List Ob} {w w' : World} {F : Nat → Prop} {e e' : Env}

theorem Touch.refl (w : World) (own : Nat → Prop) : Touch w w own := ⟨rfl, rfl, rfl, Nat.le_refl _, fun _ _ _ => rfl⟩
theorem Touch.trans {a b c : World} {own : Nat → Prop} (h : Touch a b own) (k : Touch b c own) : Touch a c own :=
  ⟨k.os.trans h.os, k.tape.trans h.tape, k.output.trans h.output, Nat.le_trans h.size k.size, fun i hi hn => (k.block i (Nat.lt_of_lt_of_le hi h.size) hn).trans (h.block i hi hn)⟩
theorem Touch.mono {a b : World} {own own' : Nat → Prop} (h : Touch a b own) (hs : ∀ i, own i → own' i) : Touch a b own' :=
  ⟨h.os, h.tape, h.output, h.size, fun i hi hn => h.block i hi (fun k => hn (hs i k))⟩

theorem run_storeCells (b off : Nat) (T : TypeId) : ∀ (us : List Value) (i : Nat) (vs : Array Value) (w : World), w.heap[b]? = some (.cells vs T (0, 0)) → off + i + us.length ≤ vs.size → (∀ u ∈ us, u.oneCell' = true) →
    ∃ w', (storeCells ⟨b, off, none⟩ us i).run P w = .ok () w' ∧ Touch w w' (· = b) ∧ w'.heap.size = w.heap.size ∧
      w'.heap[b]? = some (.cells ((us.zipIdx i).foldl (fun c p => c.setIfInBounds (off + p.2) p.1) vs) T (0, 0)) := by
  intro us
  induction us with
  | nil => intro i vs w hb _ _; exact ⟨w, rfl, Touch.refl _ _, rfl, by simpa using hb⟩
  | cons u r ih =>
    intro i vs w hb hle h1
    have hadd : (⟨b, off, none⟩ : Addr).add i = ⟨b, off + i, none⟩ := addr_add rfl i
    have hlt : off + i < vs.size := by simp at hle; omega
    have hcell : w.cell? ⟨b, off + i, none⟩ = some (vs[off + i]'hlt) := by
      rw [cell_of_row w b (off + i) vs T _ hb, Array.getElem?_eq_getElem hlt]
    have hfz := frozen_of_row w b (off + i) vs T hb
    have hs := heap_setCell_same w b (off + i) vs T u hb
    obtain ⟨w', h2, h3, h4, h5⟩ := ih (i + 1) (vs.setIfInBounds (off + i) u) _ hs (by simp at hle ⊢; omega) (fun x hx => h1 x (List.mem_cons_of_mem _ hx))
    have ht : Touch w (w.setCell ⟨b, off + i, none⟩ u) (· = b) := ⟨rfl, rfl, rfl, by simp, fun k hk hn => heap_setCell_other w ⟨b, off + i, none⟩ k u hn⟩
    refine ⟨w', ?_, ht.trans h3, by rw [h4]; simp, by simpa using h5⟩
    unfold storeCells
    rw [Sem.run_bind, hadd, run_store P w _ u .plain (h1 u (List.mem_cons_self ..)), hcell]
    simp only [hfz, Bool.false_eq_true, if_false, Result.andThen_ok]
    exact h2

theorem ones_values {cs : List AV} (h : ones cs = true) {vs : Array Value} (hr : RepCells w F e cs vs) : ∀ u ∈ vs.toList, u.oneCell' = true := by
  intro u hu
  obtain ⟨j, hj, hju⟩ := List.getElem_of_mem hu
  have hlt : j < cs.length := by rw [← hr.1]; simpa using hj
  have h1 := List.all_eq_true.1 h cs[j] (List.getElem_mem _)
  have := hr.2 j cs[j] (List.getElem?_eq_getElem hlt)
  have hv : vs.getD j undef = u := by
    rw [Array.getD_eq_getD_getElem?]
    rw [← hju]
    simp at hj ⊢
    simp [hj]
  rw [hv] at this
  exact one_value h1 this

theorem Mem.store (M : Mem C H w F e) {o off : Nat} {T : TypeId} {cs ys : List AV} {us : Array Value} (ho : H[o]? = some (.var T cs)) (hr : RepCells w F e ys us) (h1 : ones ys = true) (hle : off + ys.length ≤ cs.length) :
    ∃ w', (storeCells ⟨e.blk o, off, none⟩ us.toList).run P w = .ok () w' ∧ Agree (fun _ => False) w w' = Agree (fun _ => False) w w' ∧ w'.heap.size = w.heap.size ∧ Mem C (H.set o (.var T (putCells cs off ys))) w' F e := by
  obtain ⟨vs, hb, hsz, hF, hrep⟩ := M.heap.var ho
  have hlt : o < H.length := (List.getElem?_eq_some_iff.1 ho).1
  obtain ⟨w', h2, h3, h4, h5⟩ := run_storeCells (P := P) (e.blk o) off T us.toList 0 vs w hb (by have := hr.1; simp; omega) (ones_values h1 hr)
  have hown : ∀ b, b = e.blk o → Owner e H o b := fun b hbb => by unfold Owner; rw [ho]; exact hbb.symm
  refine ⟨w', h2, rfl, h4, M.change (o := o) (.var T (putCells cs off ys)) (by simp [M.heap.len]) (by simp) (fun o' hn => by rw [List.getElem?_set_ne (Ne.symm hn)]) (by simp [hlt]) (EnvLe.refl e) (fun o' _ _ => ⟨rfl, rfl⟩) (h3.mono hown) ?_ ?_⟩
  · refine ⟨hF, _, h5, ?_⟩
    have L : Later w F w' F := M.later (h3.mono hown)
    have h6 : RepCells w' F e cs vs := ⟨hsz, fun j s hj => (hrep j s hj).mono L (EnvLe.refl e)⟩
    have := putCells_sound (w := w') (F := F) (e := e) off ys us.toList 0 cs vs (by rw [Array.length_toList]; exact hr.1) (fun j s hj => by
      have := (hr.2 j s hj).mono L (EnvLe.refl e)
      have hlt : j < us.size := by rw [hr.1]; exact (List.getElem?_eq_some_iff.1 hj).1
      simpa [List.getD_eq_getElem?_getD, Array.getD_eq_getD_getElem?, Array.getElem?_eq_getElem hlt] using this) h6
    exact this
  · intro b hb'
    unfold Owner at hb'
    simp [hlt] at hb'
    exact .inl (hown b hb'.symm)

/-! ### Rows -/
/-- A row's elements, laid one behind another. -/
def Flat (w : World) (F : Nat → Prop) (sz : Nat) (xs : List (List AV)) (vs : List Value) : Prop :=
  vs.length = xs.length * sz ∧ (∀ (i : Nat) cs, xs[i]? = some cs → cs.length = sz ∧ ones cs = true) ∧
  ∀ (i : Nat) (cs : List AV) (j : Nat) s, xs[i]? = some cs → cs[j]? = some s → ∃ y, vs[i * sz + j]? = some y ∧ Rep w F Env.nil s y

theorem idx_lt {i j n sz : Nat} (hi : i < n) (hj : j < sz) : i * sz + j < n * sz := by
  have : i * sz + sz ≤ n * sz := by rw [← Nat.succ_mul]; exact Nat.mul_le_mul_right _ hi
  omega

theorem Flat.append {sz : Nat} {xs ys : List (List AV)} {vs us : List Value} (h : Flat w F sz xs vs) (k : Flat w F sz ys us) : Flat w F sz (xs ++ ys) (vs ++ us) := by
  refine ⟨by rw [List.length_append, List.length_append, h.1, k.1, Nat.add_mul], fun i cs hi => ?_, fun i cs j s hi hj => ?_⟩
  · rcases Nat.lt_or_ge i xs.length with hlt | hge
    · rw [List.getElem?_append_left hlt] at hi; exact h.2.1 i cs hi
    · rw [List.getElem?_append_right hge] at hi; exact k.2.1 _ cs hi
  · rcases Nat.lt_or_ge i xs.length with hlt | hge
    · rw [List.getElem?_append_left hlt] at hi
      obtain ⟨y, hy, hr⟩ := h.2.2 i cs j s hi hj
      refine ⟨y, ?_, hr⟩
      rw [List.getElem?_append_left (by rw [h.1]; exact idx_lt hlt (by rw [← (h.2.1 i cs hi).1]; exact (List.getElem?_eq_some_iff.1 hj).1))]
      exact hy
    · rw [List.getElem?_append_right hge] at hi
      obtain ⟨y, hy, hr⟩ := k.2.2 _ cs j s hi hj
      refine ⟨y, ?_, hr⟩
      have he : i * sz + j = vs.length + ((i - xs.length) * sz + j) := by
        rw [h.1, ← Nat.add_assoc, ← Nat.add_mul]; congr 2; omega
      rw [he, List.getElem?_append_right (by omega)]
      simpa using hy

theorem Flat.mono {sz : Nat} {xs : List (List AV)} {vs : List Value} (h : Flat w F sz xs vs) {F' : Nat → Prop} (L : Later w F w' F') : Flat w' F' sz xs vs :=
  ⟨h.1, h.2.1, fun i cs j s hi hj => let ⟨y, hy, hr⟩ := h.2.2 i cs j s hi hj; ⟨y, hy, hr.mono L (EnvLe.refl _)⟩⟩

/-- Our row is owned as the library has it. -/
theorem OwnRow.owns {el sz : Nat} {xs : List (List AV)} {x : Value} (h : OwnRow w F el sz xs x) : ∃ vs, Flat w F sz xs vs ∧ w.ownsRow 0 el sz x xs.length vs := by
  obtain ⟨hsz, h⟩ := h
  rcases h with ⟨rfl, rfl⟩ | ⟨b, c, vs, rfl, hF, hb, hvs, hle, hmx, hrep⟩
  · exact ⟨[], ⟨by simp, by simp, by simp⟩, by simpa using World.ownsRow_nil w 0 el sz⟩
  · have hlen : xs.length * sz ≤ vs.size := by rw [hvs]; exact Nat.mul_le_mul_right _ hle
    refine ⟨vs.toList.take (xs.length * sz), ⟨by simp; omega, hsz, fun i cs j s hi hj => ?_⟩, ⟨by simp; omega, .inr ⟨b, c, vs, rfl, Nat.zero_le _, hb, hle, hmx, hvs, rfl⟩⟩⟩
    obtain ⟨y, hy, hr⟩ := hrep i cs j s hi hj
    refine ⟨y, ?_, hr⟩
    rw [List.getElem?_take_of_lt (idx_lt (List.getElem?_eq_some_iff.1 hi).1 (by rw [← (hsz i cs hi).1]; exact (List.getElem?_eq_some_iff.1 hj).1))]
    simpa using hy

theorem OwnRow.of_owns {el sz : Nat} {xs : List (List AV)} {x : Value} {vs : List Value} (hf : Flat w F sz xs vs) (h : w.ownsRow 0 el sz x xs.length vs) (hF : ∀ b, x.ownBlock = some b → ¬ F b) : OwnRow w F el sz xs x := by
  refine ⟨hf.2.1, ?_⟩
  obtain ⟨h1, h2⟩ := h
  rcases h2 with ⟨rfl, hn⟩ | ⟨g, cap, cur, rfl, _, hb, hle, hmx, hcs, htk⟩
  · exact .inl ⟨List.length_eq_zero_iff.1 hn, rfl⟩
  · refine .inr ⟨g, cap, cur, rfl, hF g rfl, hb, hcs, hle, hmx, fun i cs j s hi hj => ?_⟩
    obtain ⟨y, hy, hr⟩ := hf.2.2 i cs j s hi hj
    refine ⟨y, ?_, hr⟩
    rw [← htk, List.getElem?_take_of_lt (idx_lt (List.getElem?_eq_some_iff.1 hi).1 (by rw [← (hf.2.1 i cs hi).1]; exact (List.getElem?_eq_some_iff.1 hj).1))] at hy
    simpa using hy

end
end Go.Ab
