/- Functions: a contract out of a run of the body. -/
import Derived.Test.YthhddlhgkejhbaaStAbsR
namespace Go.Ab
set_option linter.unusedVariables false
set_option linter.unusedSimpArgs false

def initRegs (args : List AV) : Nat → AV := fun t => (args[t]?).getD .dead

def resList (G : Gm) (S : St) : List ResultVar → (List AV → Prop) → Prop
  | [], k => k []
  | .tmp t :: r, k => resList G S r fun vs => k (S.regs t :: vs)
  | .cell t T :: r, k => (match ty G.tys T with | some ti => loadV S ti (S.regs t) fun x => resList G S r fun vs => k (x :: vs) | none => False)

def resS (G : Gm) (S : St) (rs : List ResultVar) (k : AV → Prop) : Prop :=
  resList G S rs fun vs => match vs with | [x] => k x | vs => k (.tup vs)

def purR (H : List Ob) (r : AV) (k : AV → Prop) : Prop :=
  match r with
  | .tup vs => purAs H vs fun vs => k (.tup vs)
  | r => purA H r k

def finP (G : Gm) (rs : List ResultVar) (K : AV → Prop) (x : Exit) (S : St) : Prop :=
  match x with
  | .normal => resS G S rs fun r => purR S.heap r K
  | .ret => resS G S rs fun r => purR S.heap r K
  | _ => False

def finC (G : Gm) (rs : List ResultVar) (K : AV → List Ob → Prop) (x : Exit) (S : St) : Prop :=
  match x with
  | .normal => resS G S rs fun r => K r S.heap
  | .ret => resS G S rs fun r => K r S.heap
  | _ => False

section
variable {P : Program} {G : Gm} {C : Ctx} {S : St} {a : Act} {w w' : World} {F F' : Nat → Prop} {e e' : Env}

theorem loadV_var (hG : TyOk P G.tys) (H : Here S a w F e) {T : TypeId} {ti : TI} (ht : ty G.tys T = some ti) {t : Nat} {q : AV → Prop} (h : loadV S ti (S.regs t) q) :
    ∃ r x, q r ∧ Rep w F e r x ∧ (do loadVar T (← asAddr (a.tmps.getD t undef)) : Sem Value).run P w = .ok x w := by
  let o : Oper := { dst := none, op := .load T (.tmp t), type := 0, pos := "", after := #[], guard := none }
  obtain ⟨r, x, hq, hr, hy⟩ := loadV_sound (X := fun _ => False) (A := .tmp t) (o := o) hG H ht rfl XOk.none h
  refine ⟨r, x, hq, hr, ?_⟩
  have := hy w (Agree.refl w)
  simp only [execOp, o, Sem.run_bind, Instr.loadAt] at this
  have e1 : a.eval (.tmp t) = a.tmps.getD t undef := rfl
  rw [e1] at this
  generalize a.tmps.getD t undef = X at *
  cases X with
  | pointer p =>
    cases p with
    | none => simp [Instr.sureAddr, Result.andThen] at this
    | some ad =>
      simp only [Instr.sureAddr, asAddr, Sem.run_bind, Sem.run_pure, Result.andThen_ok] at this ⊢
      cases hl : (loadVar T ad).run P w with
      | ok y w2 =>
        rw [hl] at this
        simp at this
        rw [this.1, this.2]
      | halt z w2 => rw [hl] at this; simp at this
  | _ => simp [Instr.sureAddr, Result.andThen] at this

theorem resList_sound (hG : TyOk P G.tys) (H : Here S a w F e) : ∀ (rs : List ResultVar) {k : List AV → Prop}, resList G S rs k →
    ∃ vs xs, k vs ∧ RepCells w F e vs xs.toArray ∧ (rs.mapM (fun r => match r with | .tmp t => pure (a.tmps.getD t undef) | .cell x t => do loadVar t (← asAddr (a.tmps.getD x undef))) : Sem (List Value)).run P w = .ok xs w
  | [], k, h => ⟨[], [], h, ⟨rfl, fun j s hj => by simp at hj⟩, by simp⟩
  | .tmp t :: r, k, h => by
    simp only [resList] at h
    obtain ⟨vs, xs, hk, hr, hrun⟩ := resList_sound hG H r h
    refine ⟨S.regs t :: vs, a.tmps.getD t undef :: xs, hk, ⟨by have := hr.1; simp at this ⊢; omega, fun j s hj => ?_⟩, ?_⟩
    · cases j with
      | zero => simp at hj; subst hj; exact H.regs t
      | succ j => simpa using hr.2 j s (by simpa using hj)
    · simp only [List.mapM_cons, Sem.run_bind, Sem.run_pure, Result.andThen_ok, hrun]
  | .cell t T :: r, k, h => by
    simp only [resList] at h
    split at h
    case h_2 => exact h.elim
    rename_i ti ht
    obtain ⟨x, y, hk, hx, hload⟩ := loadV_var hG H ht h
    obtain ⟨vs, xs, hk, hr, hrun⟩ := resList_sound hG H r hk
    refine ⟨x :: vs, y :: xs, hk, ⟨by have := hr.1; simp at this ⊢; omega, fun j s hj => ?_⟩, ?_⟩
    · cases j with
      | zero => simp at hj; subst hj; exact hx
      | succ j => simpa using hr.2 j s (by simpa using hj)
    · simp only [List.mapM_cons]
      rw [Sem.run_bind, hload]
      simp only [Sem.run_bind, Sem.run_pure, Result.andThen_ok, hrun]

theorem resS_sound (hG : TyOk P G.tys) (H : Here S a w F e) (fn : Func) {k : AV → Prop} (h : resS G S fn.results.toList k) : ∃ r x, k r ∧ Rep w F e r x ∧ (results fn a.tmps).run P w = .ok x w := by
  obtain ⟨vs, xs, hk, hr, hrun⟩ := resList_sound hG H _ h
  have hm : (fn.results.mapM (fun r => match r with | .tmp t => pure (a.tmps.getD t undef) | .cell x t => do loadVar t (← asAddr (a.tmps.getD x undef))) : Sem (Array Value)).run P w = .ok xs.toArray w := by
    rw [Array.mapM_eq_mapM_toList, Sem.run_map, hrun]
    rfl
  have hres : (results fn a.tmps).run P w = .ok (if h : xs.toArray.size = 1 then xs.toArray[0] else .tuple xs.toArray) w := by
    unfold results
    rw [Sem.run_bind]
    refine Eq.trans (congrArg (fun z => Result.andThen z _) (?_ : _ = Result.ok xs.toArray w)) rfl
    rw [← hm]
    congr 2
  rw [hres]
  split at hk
  · rename_i x
    obtain ⟨h1, h2⟩ := hr
    have hl : xs.length = 1 := by simpa using h1
    obtain ⟨y, rfl⟩ := List.length_eq_one_iff.1 hl
    exact ⟨x, y, hk, by simpa using h2 0 x rfl, by simp⟩
  · rename_i hne
    refine ⟨.tup vs, .tuple xs.toArray, hk, .tup hr.1 hr.2, ?_⟩
    have : ¬ xs.toArray.size = 1 := by
      intro h1
      rw [hr.1] at h1
      obtain ⟨y, rfl⟩ := List.length_eq_one_iff.1 h1
      exact hne y rfl
    rw [dif_neg this]

theorem init_sat {H : List Ob} (M : Mem C H w F e) (hb : C.e0.len = H.length) {args : List AV} {vs : Array Value} (hr : RepCells w F e args vs) {n : Nat} (hn : args.length ≤ n) :
    Sat C ⟨n, H.length, initRegs args, H⟩ { tmps := vs ++ Array.replicate (n - vs.size) undef, defers := [] } w F e := by
  refine ⟨rfl, by have := hr.1; simp; omega, hb, fun t => ?_, M⟩
  simp only [initRegs]
  rw [Array.getD_eq_getD_getElem?, Array.getElem?_append]
  cases ht : args[t]? with
  | none => exact .dead
  | some s =>
    have hlt := (List.getElem?_eq_some_iff.1 ht).1
    rw [if_pos (by rw [hr.1]; exact hlt), ← Array.getD_eq_getD_getElem?]
    exact hr.2 t s ht

theorem callable_of {g : FuncId} {fn : Func} {c : Code} (hf : P.funcs[g]? = some fn) (hb : fn.body = some c) (hn : (fn.name == "runtime.NumGoroutine") = false) : Callable P g := ⟨fn, hf, hn, by rw [hb]; rfl⟩

theorem pure_of (hG : TyOk P G.tys) {g : FuncId} {fn : Func} {c : Code} (hf : P.funcs[g]? = some fn) (hb : fn.body = some c) (hn : (fn.name == "runtime.NumGoroutine") = false)
    {args : List AV} {K : AV → Prop} (hl : args.length ≤ fn.ntmps) (h : Tri P c ⟨fn.ntmps, 0, initRegs args, []⟩ (finP G fn.results.toList K)) : PureP P g args K := by
  refine ⟨callable_of hf hb hn, fun w F vs hbd hr => calls_of_wp hf hb ?_⟩
  let C : Ctx := ⟨w, fun _ => False, Env.nil, F⟩
  have M : Mem C [] w F Env.nil := ⟨⟨rfl, fun o b ho => by simp at ho, fun o o' b ho => by unfold Owner at ho; simp at ho⟩, ⟨rfl, rfl, rfl, Nat.le_refl _, fun _ _ _ => rfl⟩, fun o b ho => by unfold Owner at ho; simp at ho, fun b hb => hb, hbd, fun b hb => .inl hb, EnvLe.refl _⟩
  have hS := init_sat (C := C) M rfl hr hl
  refine wp_mono (h.out C _ w F Env.nil hS) ?_
  rintro ex a' w' ⟨S', F', e', hq, hs⟩
  have fin : resS G S' fn.results.toList (fun r => purR S'.heap r K) → a'.defers = [] ∧ ∃ v, (results fn a'.tmps).run P w' = .ok v w' ∧ (∃ r x F'', Ending.returned v = .returned x ∧ K r ∧ Rep w' F'' Env.nil r x ∧ (∀ b, F b → F'' b) ∧ (∀ b, F'' b → F b ∨ w.heap.size ≤ b) ∧ (∀ b, F'' b → b < w'.heap.size) ∧ Touch w w' (fun _ => False)) := by
    intro hres
    obtain ⟨r, x, hk, hrep, hrun⟩ := resS_sound hG hs.here fn hres
    refine ⟨hs.defers, x, hrun, ?_⟩
    have key : ∃ r' F'' H'', K r' ∧ Mem C H'' w' F'' e' ∧ Rep w' F'' Env.nil r' x := by
      unfold purR at hk
      split at hk
      · rename_i us
        obtain ⟨xs, rfl, h1, h2⟩ := hrep.tup_inv
        obtain ⟨us', F1, hk, L, M1, l1, r1⟩ := purAs_sound us (Froze.refl _) hs.mem (fun j => xs.getD j undef) h2 hk
        exact ⟨_, F1, _, hk, M1, .tup (by rw [l1]; exact h1) r1⟩
      · obtain ⟨r', F1, hk, L, M1, r1⟩ := purA_sound (Froze.refl _) hs.mem hrep hk
        exact ⟨r', F1, _, hk, M1, r1⟩
    obtain ⟨r', F'', H'', hk', M', hr'⟩ := key
    refine ⟨r', x, F'', rfl, hk', hr', M'.sub, fun b hb => ?_, M'.bound, ⟨M'.mod.os, M'.mod.tape, M'.mod.output, M'.mod.size, fun b hb _ => M'.mod.block b hb (fun h => h)⟩⟩
    rcases M'.fresh b hb with h | h | h
    · exact .inl h
    · exact .inr h
    · exact h.elim
  cases ex with
  | normal => exact fin hq
  | ret => exact fin hq
  | _ => exact hq.elim

theorem call_of (hG : TyOk P G.tys) {g : FuncId} {fn : Func} {c : Code} (hf : P.funcs[g]? = some fn) (hb : fn.body = some c) (hn : (fn.name == "runtime.NumGoroutine") = false)
    {H : List Ob} {args : List AV} {K : AV → List Ob → Prop} (hl : args.length ≤ fn.ntmps) (h : Tri P c ⟨fn.ntmps, H.length, initRegs args, H⟩ (finC G fn.results.toList K)) : CallP P g H args K := by
  refine ⟨callable_of hf hb hn, fun C0 w F e vs M0 hr => calls_of_wp hf hb ?_⟩
  let C : Ctx := ⟨w, fun b => ∃ o, Owner e H o b, e, F⟩
  have M : Mem C H w F e := ⟨M0.heap, ⟨rfl, rfl, rfl, Nat.le_refl _, fun _ _ _ => rfl⟩, fun o b ho => .inr ⟨o, ho⟩, fun b hb => hb, M0.bound, fun b hb => .inl hb, EnvLe.refl _⟩
  have hS := init_sat (C := C) M M0.heap.len hr hl
  refine wp_mono (h.out C _ w F e hS) ?_
  rintro ex a' w' ⟨S', F', e', hq, hs⟩
  have fin : resS G S' fn.results.toList (fun r => K r S'.heap) → a'.defers = [] ∧ ∃ v, (results fn a'.tmps).run P w' = .ok v w' ∧ (∃ r x H' F' e', Ending.returned v = .returned x ∧ K r H' ∧ Mem C0 H' w' F' e' ∧ Rep w' F' e' r x ∧ EnvLe e e' ∧ Later w F w' F') := by
    intro hres
    obtain ⟨r, x, hk, hrep, hrun⟩ := resS_sound hG hs.here fn hres
    have M' := hs.mem
    have old : ∀ b, (∃ o, Owner e H o b) → C0.w0.heap.size ≤ b ∨ C0.own0 b := fun b ⟨o, ho⟩ => M0.ours o b ho
    refine ⟨hs.defers, x, hrun, r, x, S'.heap, F', e', rfl, hk, ⟨M'.heap, ⟨M'.mod.os.trans M0.mod.os, M'.mod.tape.trans M0.mod.tape, M'.mod.output.trans M0.mod.output, Nat.le_trans M0.mod.size M'.mod.size, fun b hb hno => ?_⟩, fun o b ho => ?_, fun b hb => M'.sub b (M0.sub b hb), M'.bound, fun b hb => ?_, M0.env.trans M'.env⟩, hrep, M'.env, ⟨M'.sub, fun b hb => ?_⟩⟩
    · rw [M'.mod.block b (Nat.lt_of_lt_of_le hb M0.mod.size) (fun h => ?_)]
      · exact M0.mod.block b hb hno
      · rcases old b h with k | k
        · omega
        · exact hno k
    · rcases M'.ours o b ho with k | k
      · exact .inl (Nat.le_trans M0.mod.size k)
      · exact old b k
    · rcases M'.fresh b hb with k | k | k
      · exact M0.fresh b k
      · exact .inr (.inl (Nat.le_trans M0.mod.size k))
      · exact .inr (old b k)
    · exact M'.mod.block b (M0.bound b hb) (fun ⟨o, ho⟩ => ho.notF M0.heap hb)
  cases ex with
  | normal => exact fin hq
  | ret => exact fin hq
  | _ => exact hq.elim

end
end Go.Ab
