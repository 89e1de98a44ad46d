/- One operation is what the machine does. -/
import Derived.Test.YthhddlhgkejhbaaStAbsL
namespace Go.Ab
set_option linter.unusedVariables false
set_option linter.unusedSimpArgs false
section
variable {P : Program} {G : Gm} {C : Ctx} {S : St} {a : Act} {H H' : List Ob} {w w' : World} {F F' : Nat → Prop} {e e' : Env}

theorem Sat.here (h : Sat C S a w F e) : Here S a w F e := ⟨h.regs, h.mem.heap, h.mem.bound⟩

theorem Sat.next (h : Sat C S a w F e) (L : Later w F w' F') (E : EnvLe e e') (M : Mem C H' w' F' e') {r : AV} {x : Value} (hr : Rep w' F' e' r x) {d : Option Nat} (hd : S.okD d = true) :
    Sat C ((S.withHeap H').put d r) (a.put d x) w' F' e' := by
  cases d with
  | none => exact ⟨h.defers, h.size, h.base, fun t => (h.regs t).mono L E, M⟩
  | some d =>
    simp only [St.okD] at hd
    have hlt : d < S.n := by
      have : Nat.blt d S.n = true := hd
      simpa [Nat.blt_eq] using this
    refine ⟨h.defers, by simp [Act.put, St.put, St.withHeap, h.size], h.base, fun t => ?_, M⟩
    simp only [Act.put, St.put, St.withHeap]
    rw [Array.getD_eq_getD_getElem?, Array.getElem?_setIfInBounds]
    by_cases ht : t = d
    · subst ht
      rw [upd_same, if_pos rfl, if_pos (by rw [h.size]; exact hlt)]
      exact hr
    · rw [upd_other _ _ _ ht, if_neg (Ne.symm ht), ← Array.getD_eq_getD_getElem?]
      exact (h.regs t).mono L E

/-- The machine's operation goes through; what follows is asked of one of the states that K lets in. -/
def Goes (P : Program) (C : Ctx) (o : Oper) (a : Act) (w : World) (K : St → Prop) (Q : Exit → Act → World → Prop) : Prop := o.wp P a w (fun a' w' => ∃ S' F' e', K S' ∧ Sat C S' a' w' F' e') Q

theorem goes_value {o : Oper} {K : St → Prop} {Q : Exit → Act → World → Prop} {x : Value} (hrun : (execOp a.eval o).run P w = .ok (.value x) w') {S' : St} (hK : K S') {F'} {e'} (hS : Sat C S' (a.put o.dst x) w' F' e') : Goes P C o a w K Q := by
  unfold Goes Oper.wp
  rw [hrun]
  exact ⟨S', F', e', hK, hS⟩

theorem goes_skip {o : Oper} {K : St → Prop} {Q : Exit → Act → World → Prop} (hrun : (execOp a.eval o).run P w = .ok .skip w') {S' : St} (hK : K S') {F'} {e'} (hS : Sat C S' (a.put o.dst undef) w' F' e') : Goes P C o a w K Q := by
  unfold Goes Oper.wp
  rw [hrun]
  exact ⟨S', F', e', hK, hS⟩

theorem val_goes (hG : TyOk P G.tys) (h : Sat C S a w F e) {o : Oper} {K : St → Prop} {Q : Exit → Act → World → Prop} (hd : S.okD o.dst = true) (hv : valOp G.tys S o.op fun r => K (S.put o.dst r)) : Goes P C o a w K Q := by
  obtain ⟨r, x, hK, hr, hy⟩ := valOp_sound (X := fun _ => False) hG h.here o _ XOk.none hv
  refine goes_value (F' := F) (e' := e) (hy w (Agree.refl w)) hK ?_
  have := h.next (Later.refl w F) (EnvLe.refl e) h.mem hr hd
  exact this

theorem zero_cells {t : TypeId} {ti : TI} (g : TGood P t ti) {z : Value} (hz : z.cells = ti.zero.toArray) : RepCells w F e (ti.zero.map .v) z.cells := by
  rw [hz]
  refine ⟨by simp, fun j s hj => ?_⟩
  rw [List.getElem?_map] at hj
  cases hv : ti.zero[j]? with
  | none => rw [hv] at hj; cases hj
  | some y =>
    rw [hv] at hj
    simp at hj
    subst hj
    rw [Array.getD_eq_getD_getElem?, List.getElem?_toArray, hv]
    exact .v

theorem alloc_goes (hG : TyOk P G.tys) (h : Sat C S a w F e) {o : Oper} {T : TypeId} {ti : TI} (ho : o.op = .alloc T) (ht : ty G.tys T = some ti) {K : St → Prop} {Q : Exit → Act → World → Prop} (hd : S.okD o.dst = true)
    (hK : K ((S.withHeap (S.heap ++ [.var T (ti.zero.map .v)])).put o.dst (.ptr S.heap.length 0))) : Goes P C o a w K Q := by
  obtain ⟨z, hz, hzc⟩ := (hG.get ht).zeroValue w
  have hr : (execOp a.eval o).run P w = .ok (.value (.pointer (some ⟨w.heap.size, 0, none⟩))) (w.alloc (.cells z.cells T)) := by
    simp [execOp, ho, Instr.alloc, hz, newVar, newRow]
  refine goes_value hr hK (h.next (h.mem.later (touch_alloc w _ (Owner e S.heap S.heap.length))) (EnvLe.pushVar e w.heap.size) (h.mem.pushVar (zero_cells (hG.get ht) hzc)) ?_ hd)
  have : (e.pushVar w.heap.size).blk S.heap.length = w.heap.size := by simp only [Env.pushVar]; rw [← h.mem.heap.len]; exact upd_same _ _ _
  have hlt : S.heap.length < (e.pushVar w.heap.size).len := by show S.heap.length < e.len + 1; rw [h.mem.heap.len]; omega
  have hp := fun (W : World) => Rep.ptr (w := W) (F := F) (off := 0) hlt
  rw [this] at hp
  exact hp _

theorem box_goes (h : Sat C S a w F e) {o : Oper} {T : TypeId} {x : Operand} (ho : o.op = .box T x) {cs : List AV} (hc : cellsB (S.ev x) = some cs) {K : St → Prop} {Q : Exit → Act → World → Prop} (hd : S.okD o.dst = true)
    (hK : K ((S.withHeap (S.heap ++ [.var T cs])).put o.dst (.ptr S.heap.length 0))) : Goes P C o a w K Q := by
  have hr : (execOp a.eval o).run P w = .ok (.value (.pointer (some ⟨w.heap.size, 0, none⟩))) (w.alloc (.cells (a.eval x).cells T)) := by
    simp [execOp, ho, Instr.box, newVar, newRow]
  refine goes_value hr hK (h.next (h.mem.later (touch_alloc w _ (Owner e S.heap S.heap.length))) (EnvLe.pushVar e w.heap.size) (h.mem.pushVar (cellsB_sound hc (h.here.ev x))) ?_ hd)
  have : (e.pushVar w.heap.size).blk S.heap.length = w.heap.size := by simp only [Env.pushVar]; rw [← h.mem.heap.len]; exact upd_same _ _ _
  have hlt : S.heap.length < (e.pushVar w.heap.size).len := by show S.heap.length < e.len + 1; rw [h.mem.heap.len]; omega
  have hp := fun (W : World) => Rep.ptr (w := W) (F := F) (off := 0) hlt
  rw [this] at hp
  exact hp _

theorem Mem.storeRow (M : Mem C H w F e) {o el sz i off : Nat} {xs : List (List AV)} {cs ys : List AV} {b m c : Nat} {us : Array Value} (ho : H[o]? = some (.row el sz xs)) (hv : e.rowv o = .slice (some ⟨b, 0, none⟩) m c)
    (hi : xs[i]? = some cs) (hr : RepCells w F Env.nil ys us) (h1 : ones ys = true) (hle : off + ys.length ≤ cs.length) :
    ∃ w', (storeCells ⟨b, i * sz + off, none⟩ us.toList).run P w = .ok () w' ∧ Touch w w' (Owner e H o) ∧ w'.heap.size = w.heap.size ∧ Mem C (H.set o (.row el sz (xs.set i (putCells cs off ys)))) w' F e := by
  have hlt : o < H.length := (List.getElem?_eq_some_iff.1 ho).1
  obtain ⟨hrl, hsz, hown⟩ := M.heap.ob o _ ho
  rcases hown with ⟨hnil, _⟩ | ⟨b', c', vs, hv', hF, hb, hvs, hcap, hmx, hrep⟩
  · subst hnil; simp at hi
  rw [hv] at hv'
  injection hv' with hv' hm hc
  injection hv' with hv'
  injection hv' with hv' _ _
  subst hv' hm hc
  have hil : i < xs.length := (List.getElem?_eq_some_iff.1 hi).1
  obtain ⟨hcl, hcone⟩ := hsz i cs hi
  have hbig : i * sz + sz ≤ vs.size := by rw [hvs, ← Nat.succ_mul]; exact Nat.mul_le_mul_right _ (by omega)
  obtain ⟨w', h2, h3, h4, h5⟩ := run_storeCells (P := P) b (i * sz + off) el us.toList 0 vs w hb (by have := hr.1; simp; omega) (ones_values h1 hr)
  have hownb : ∀ b1, b1 = b → Owner e H o b1 := fun b1 hbb => by unfold Owner; rw [ho]; exact ⟨_, _, by rw [hbb]; exact hv⟩
  have hT : Touch w w' (Owner e H o) := h3.mono hownb
  have L : Later w F w' F := M.later hT
  refine ⟨w', h2, hT, h4, M.change (o := o) (.row el sz (xs.set i (putCells cs off ys))) (by simp [M.heap.len]) (by simp) (fun o' hn => by rw [List.getElem?_set_ne (Ne.symm hn)]) (by simp [hlt]) (EnvLe.refl e) (fun o' _ _ => ⟨rfl, rfl⟩) hT ?_ ?_⟩
  · refine ⟨by simp [hrl], fun k ks hk => ?_, .inr ⟨b, c, _, by rw [hv]; simp, hF, h5, ?_, by simpa using hcap, hmx, fun k ks j s hk hj => ?_⟩⟩
    · by_cases hki : i = k
      · subst hki
        rw [List.getElem?_set_self hil] at hk
        · injection hk with hk
          subst hk
          refine ⟨by rw [putCells_length]; exact hcl, ?_⟩
          have : ∀ (ys cs : List AV) (off : Nat), ones ys = true → ones cs = true → ones (putCells cs off ys) = true := by
            intro ys
            induction ys with
            | nil => intro cs off _ h; exact h
            | cons y ys ih =>
              intro cs off hy hc
              simp only [ones, List.all_cons, Bool.and_eq_true] at hy
              refine ih _ _ hy.2 ?_
              simp only [ones, List.all_eq_true] at hc ⊢
              intro x hx
              rcases List.mem_or_eq_of_mem_set hx with h | h
              · exact hc x h
              · subst h; exact hy.1
          exact this ys cs off h1 hcone
      · rw [List.getElem?_set_ne hki] at hk
        exact hsz k ks hk
    · have : ∀ (l : List (Value × Nat)) (v : Array Value) (f : Nat), (l.foldl (fun c p => c.setIfInBounds (f + p.2) p.1) v).size = v.size := by
        intro l
        induction l with
        | nil => intro v f; rfl
        | cons x l ih => intro v f; simp only [List.foldl_cons]; rw [ih]; simp
      rw [this]; exact hvs
    · -- the cells of element k
      have getF : ∀ (us : List Value) (j0 : Nat) (v : Array Value) (f q : Nat), f + j0 + us.length ≤ v.size → ((us.zipIdx j0).foldl (fun c p => c.setIfInBounds (f + p.2) p.1) v)[q]? = if f + j0 ≤ q ∧ q < f + j0 + us.length then us[q - (f + j0)]? else v[q]? := by
        intro us
        induction us with
        | nil => intro j0 v f q _; simp; omega
        | cons u us ih =>
          intro j0 v f q hq
          simp only [List.zipIdx_cons, List.foldl_cons]
          rw [ih (j0 + 1) _ f q (by simp at hq ⊢; omega)]
          simp only [Array.getElem?_setIfInBounds, List.length_cons] at *
          by_cases c1 : q = f + j0
          · subst c1
            rw [if_neg (by omega), if_pos rfl, if_pos (by omega), if_pos (by omega)]
            simp
          · by_cases c2 : f + (j0 + 1) ≤ q ∧ q < f + (j0 + 1) + us.length
            · rw [if_pos c2, if_pos (by omega)]
              have : q - (f + j0) = (q - (f + (j0 + 1))) + 1 := by omega
              rw [this]; simp
            · rw [if_neg c2, if_neg (by omega), if_neg (by omega)]
      have hul : us.toList.length = ys.length := by rw [Array.length_toList]; exact hr.1
      have hget := fun q => getF us.toList 0 vs (i * sz + off) q (by rw [hul]; omega)
      have hjk : j < sz := by
        have := (List.getElem?_eq_some_iff.1 hj).1
        have : ks.length = sz := by
          by_cases hki : i = k
          · subst hki
            rw [List.getElem?_set_self hil] at hk
            injection hk with hk; rw [← hk, putCells_length]; exact hcl
          · rw [List.getElem?_set_ne hki] at hk
            exact (hsz k ks hk).1
        omega
      rw [hget, hul]
      by_cases hki : k = i
      · subst hki
        simp [hil] at hk
        subst hk
        have hput : ∀ (ys cs : List AV) (off q : Nat), off + ys.length ≤ cs.length → (putCells cs off ys)[q]? = if off ≤ q ∧ q < off + ys.length then ys[q - off]? else cs[q]? := by
          intro ys
          induction ys with
          | nil => intro cs off q _; simp [putCells]; omega
          | cons y ys ih =>
            intro cs off q hq
            simp only [List.length_cons] at hq
            simp only [putCells]
            rw [ih _ _ _ (by simp; omega), List.getElem?_set]
            simp only [List.length_cons]
            by_cases c1 : q = off
            · subst c1
              rw [if_neg (by omega), if_pos rfl, if_pos (by omega), if_pos (by omega)]
              simp
            · by_cases c2 : off + 1 ≤ q ∧ q < off + 1 + ys.length
              · rw [if_pos c2, if_pos (by omega)]
                have : q - off = (q - (off + 1)) + 1 := by omega
                rw [this]; simp
              · rw [if_neg c2, if_neg (Ne.symm c1), if_neg (by omega)]
        rw [hput ys cs off j hle] at hj
        by_cases hin : off ≤ j ∧ j < off + ys.length
        · rw [if_pos hin] at hj
          rw [if_pos (by omega)]
          have := hr.2 _ s hj
          have hlt2 : j - off < us.size := by rw [hr.1]; omega
          refine ⟨us.getD (j - off) undef, ?_, this.mono L (EnvLe.refl _)⟩
          have e1 : k * sz + j - (k * sz + off + 0) = j - off := by omega
          rw [e1]
          simp [Array.getD_eq_getD_getElem?, Array.getElem?_eq_getElem hlt2, hlt2]
        · rw [if_neg hin] at hj
          rw [if_neg (by omega)]
          obtain ⟨y, hy, hyr⟩ := hrep k cs j s hi hj
          exact ⟨y, hy, hyr.mono L (EnvLe.refl _)⟩
      · rw [List.getElem?_set_ne (Ne.symm hki)] at hk
        have hout : ¬ (i * sz + off + 0 ≤ k * sz + j ∧ k * sz + j < i * sz + off + 0 + ys.length) := by
          intro hc
          rcases Nat.lt_or_gt_of_ne hki with hlt' | hgt
          · have : k * sz + sz ≤ i * sz := by rw [← Nat.succ_mul]; exact Nat.mul_le_mul_right _ hlt'
            omega
          · have : i * sz + sz ≤ k * sz := by rw [← Nat.succ_mul]; exact Nat.mul_le_mul_right _ hgt
            omega
        rw [if_neg hout]
        obtain ⟨y, hy, hyr⟩ := hrep k ks j s hk hj
        exact ⟨y, hy, hyr.mono L (EnvLe.refl _)⟩
  · intro b1 hb'
    unfold Owner at hb'
    simp [hlt] at hb'
    obtain ⟨n, c1, hv1⟩ := hb'
    exact .inl (by unfold Owner; rw [ho]; exact ⟨n, c1, hv1⟩)

end
end Go.Ab
