/- Functions that hand back a row of their own, or one that they were handed. -/
import Derived.Test.YthhddlhgkejhbaaStAbsU
namespace Go.Ab
set_option linter.unusedVariables false
set_option linter.unusedSimpArgs false

/-- The end of such a function. -/
def finE (G : Gm) (rs : List ResultVar) (el sz : Nat) (K : List (List AV) → Prop) (x : Exit) (S : St) : Prop :=
  match x with
  | .normal => resS G S rs (rowE S el sz K)
  | .ret => resS G S rs (rowE S el sz K)
  | _ => False
  where
  rowE (S : St) (el sz : Nat) (K : List (List AV) → Prop) (r : AV) : Prop :=
    match r with
    | .row o n => (match S.heap[o]? with | some (.row el' sz' ys) => Chk (Nat.beq el' el && Nat.beq sz' sz) <| Need (n = ys.length) <| K ys | _ => False)
    | .vw o n s lo hi => (match S.heap[o]? with | some (.row el' sz' ys) => Chk (Nat.beq el' el && Nat.beq sz' sz) <| Need (lo = 0 ∧ n = ys.length) <| K (ys.take hi) | _ => False)
    | .v (.slice none 0 0) => K []
    | _ => False

section
variable {P : Program} {G : Gm} {C : Ctx} {S : St} {a : Act} {H : List Ob} {w w' : World} {F F' : Nat → Prop} {e e' : Env}

theorem OwnRow.part {el sz : Nat} {xs : List (List AV)} {b c k : Nat} (h : OwnRow w F el sz xs (.slice (some ⟨b, 0, none⟩) xs.length c)) (hk : k ≤ xs.length) : OwnRow w F el sz (xs.take k) (.slice (some ⟨b, 0, none⟩) k c) := by
  obtain ⟨hsz, h⟩ := h
  have hg : ∀ (i : Nat) cs, (xs.take k)[i]? = some cs → xs[i]? = some cs := by
    intro i cs hi
    have hlt : i < k := by have := (List.getElem?_eq_some_iff.1 hi).1; rw [List.length_take] at this; omega
    rwa [List.getElem?_take_of_lt hlt] at hi
  refine ⟨fun i cs hi => hsz i cs (hg i cs hi), ?_⟩
  rcases h with ⟨_, hv⟩ | ⟨b', c', vs, hv, hF, hb, hvs, hle, hmx, hrep⟩
  · cases hv
  · injection hv with hv _ hc
    injection hv with hv
    injection hv with hv _ _
    subst hv hc
    refine .inr ⟨b, c, vs, ?_, hF, hb, hvs, ?_, hmx, fun i cs j s hi hj => hrep i cs j s (hg i cs hi) hj⟩
    · rw [List.length_take, Nat.min_eq_left hk]
    · rw [List.length_take]; omega

theorem rowE_sound {el sz : Nat} {K : List (List AV) → Prop} (M : Mem C S.heap w F e) {r : AV} {x : Value} (hr : Rep w F e r x) (h : finE.rowE S el sz K r) :
    ∃ ys, K ys ∧ OwnRow w F el sz ys x ∧ ∀ b, x.ownBlock = some b → C.w0.heap.size ≤ b ∨ C.own0 b := by
  unfold finE.rowE at h
  split at h
  · rename_i o n
    split at h
    case h_2 => exact h.elim
    rename_i el' sz' ys ho
    have hh := h.elim
    clear h
    obtain ⟨hq, ⟨hn, hK⟩⟩ := hh
    simp only [Bool.and_eq_true] at hq
    obtain rfl := Nat.eq_of_beq_eq_true hq.1
    obtain rfl := Nat.eq_of_beq_eq_true hq.2
    obtain ⟨hrl, hown⟩ := M.heap.ob o _ ho
    cases hr with
    | rowold _ hn2 => omega
    | row hl hn2 hv =>
      rw [← hv]
      exact ⟨ys, hK, hown, fun b hb => M.ours o b (own_block ho M hb)⟩
  · rename_i o n s lo hi
    split at h
    case h_2 => exact h.elim
    rename_i el' sz' ys ho
    have hh := h.elim
    clear h
    obtain ⟨hq, ⟨⟨hlo, hn⟩, hK⟩⟩ := hh
    simp only [Bool.and_eq_true] at hq
    obtain rfl := Nat.eq_of_beq_eq_true hq.1
    obtain rfl := Nat.eq_of_beq_eq_true hq.2
    subst hlo
    obtain ⟨hrl, hown⟩ := M.heap.ob o _ ho
    cases hr with
    | vwold _ hn2 => omega
    | @vw _ _ _ _ _ _ b m c off hl hn2 hv hle hhi hpos hoff =>
      obtain ⟨hm, hsz, vs, hb, hvs, hcap, hmx, hrep⟩ := row_block M ho hv
      have hoff0 : off = 0 := by have := hoff (by omega); simpa using this
      subst hoff0
      subst hm
      rw [hv] at hown
      refine ⟨ys.take hi, hK, ?_, fun b' hb' => ?_⟩
      · have := hown.part (k := hi) (by omega)
        simpa using this
      · simp only [Value.ownBlock, Option.some.injEq] at hb'
        subst hb'
        exact M.ours o b (by unfold Owner; rw [ho]; exact ⟨_, _, hv⟩)
  · have := hr.v_inv
    subst this
    exact ⟨[], h, ⟨fun i cs hi => by simp at hi, .inl ⟨rfl, rfl⟩⟩, fun b hb => by cases hb⟩
  · exact h.elim

theorem fresh_of (hG : TyOk P G.tys) {g : FuncId} {fn : Func} {c : Code} (hf : P.funcs[g]? = some fn) (hb : fn.body = some c) (hn : (fn.name == "runtime.NumGoroutine") = false)
    {args : List AV} {el sz : Nat} {K : List (List AV) → Prop} (hl : args.length ≤ fn.ntmps) (h : Tri P c ⟨fn.ntmps, 0, initRegs args, []⟩ (finE G fn.results.toList el sz K)) : FreshP P g args el sz K := by
  refine ⟨callable_of hf hb hn, fun w F vs hbd hr => calls_of_wp hf hb ?_⟩
  let C : Ctx := ⟨w, fun _ => False, Env.nil, F⟩
  have M : Mem C [] w F Env.nil := ⟨⟨rfl, fun o b ho => by simp at ho, fun o o' b ho => by unfold Owner at ho; simp at ho⟩, ⟨rfl, rfl, rfl, Nat.le_refl _, fun _ _ _ => rfl⟩, fun o b ho => by unfold Owner at ho; simp at ho, fun b hb => hb, hbd, fun b hb => .inl hb, EnvLe.refl _⟩
  have hS := init_sat (C := C) M rfl hr hl
  refine wp_mono (h.out C _ w F Env.nil hS) ?_
  rintro ex a' w' ⟨S', F', e', hq, hs⟩
  have fin : resS G S' fn.results.toList (finE.rowE S' el sz K) → a'.defers = [] ∧ ∃ v, (results fn a'.tmps).run P w' = .ok v w' ∧ (∃ ys x F'', Ending.returned v = .returned x ∧ K ys ∧ OwnRow w' F'' el sz ys x ∧ (∀ b, x.ownBlock = some b → w.heap.size ≤ b) ∧ (∀ b, F b → F'' b) ∧ (∀ b, F'' b → F b ∨ w.heap.size ≤ b) ∧ (∀ b, F'' b → b < w'.heap.size) ∧ Touch w w' (fun _ => False)) := by
    intro hres
    obtain ⟨r, x, hk, hrep, hrun⟩ := resS_sound hG hs.here fn hres
    have M' := hs.mem
    obtain ⟨ys, hK, hown, hblk⟩ := rowE_sound M' hrep hk
    refine ⟨hs.defers, x, hrun, ys, x, F', rfl, hK, hown, fun b hb => ?_, M'.sub, fun b hb => ?_, M'.bound, ⟨M'.mod.os, M'.mod.tape, M'.mod.output, M'.mod.size, fun b hb _ => M'.mod.block b hb (fun h => h)⟩⟩
    · rcases hblk b hb with h | h
      · exact h
      · exact h.elim
    · rcases M'.fresh b hb with h | h | h
      · exact .inl h
      · exact .inr h
      · exact h.elim
  cases ex with
  | normal => exact fin hq
  | ret => exact fin hq
  | _ => exact hq.elim

theorem eat_of (hG : TyOk P G.tys) {g : FuncId} {fn : Func} {c : Code} (hf : P.funcs[g]? = some fn) (hb : fn.body = some c) (hn : (fn.name == "runtime.NumGoroutine") = false)
    {args : List AV} {el sz : Nat} {xs : List (List AV)} {K : List (List AV) → Prop} (hl : args.length + 1 ≤ fn.ntmps) (h : Tri P c ⟨fn.ntmps, 1, initRegs (.row 0 xs.length :: args), [.row el sz xs]⟩ (finE G fn.results.toList el sz K)) : EatP P g el sz xs args K := by
  refine ⟨callable_of hf hb hn, fun w F v vs hbd hown hr => calls_of_wp hf hb ?_⟩
  let e1 : Env := ⟨1, fun _ => 0, fun _ => xs.length, fun _ => v⟩
  let C : Ctx := ⟨w, fun b => v.ownBlock = some b, e1, F⟩
  have hOw : ∀ o b, Owner e1 [.row el sz xs] o b → v.ownBlock = some b := by
    intro o b ho
    unfold Owner at ho
    cases o with
    | zero =>
      simp at ho
      obtain ⟨n, c, hv⟩ := ho
      have hv : v = _ := hv
      rw [hv]; rfl
    | succ o => simp at ho
  have M : Mem C [.row el sz xs] w F e1 := by
    refine ⟨⟨rfl, fun o b ho => ?_, fun o o' b h1 h2 => ?_⟩, ⟨rfl, rfl, rfl, Nat.le_refl _, fun _ _ _ => rfl⟩, fun o b ho => .inr (hOw o b ho), fun b hb => hb, hbd, fun b hb => .inl hb, EnvLe.refl _⟩
    · cases o with
      | zero => simp at ho; subst ho; exact ⟨rfl, hown⟩
      | succ o => simp at ho
    · have hz : ∀ o, Owner e1 [.row el sz xs] o b → o = 0 := by
        intro o ho
        cases o with
        | zero => rfl
        | succ o => unfold Owner at ho; simp at ho
      rw [hz o h1, hz o' h2]
  have hsl : ∃ A' m cc, v = .slice A' m cc := by
    rcases hown.2 with ⟨_, hv'⟩ | ⟨b, cc, vs, hv', _⟩
    · exact ⟨_, _, _, hv'⟩
    · exact ⟨_, _, _, hv'⟩
  have hr1 : RepCells w F e1 (.row 0 xs.length :: args) (#[v] ++ vs) := by
    refine ⟨by have := hr.1; simp; omega, fun j s hj => ?_⟩
    cases j with
    | zero =>
      simp at hj
      subst hj
      obtain ⟨A', m, cc, rfl⟩ := hsl
      have : (#[Value.slice A' m cc] ++ vs).getD 0 undef = .slice A' m cc := by
        rw [Array.getD_eq_getD_getElem?, Array.getElem?_append_left (by simp)]; rfl
      rw [this]
      exact .row (e := e1) (Nat.zero_lt_one) rfl rfl
    | succ j =>
      have := hr.2 j s (by simpa using hj)
      have e2 : (#[v] ++ vs).getD (j + 1) undef = vs.getD j undef := by
        rw [Array.getD_eq_getD_getElem?, Array.getElem?_append_right (by simp), Array.getD_eq_getD_getElem?]; rfl
      rw [e2]
      exact this.env
  have hS := init_sat (C := C) M rfl hr1 (by simpa using hl)
  refine wp_mono (h.out C _ w F e1 hS) ?_
  rintro ex a' w' ⟨S', F', e', hq, hs⟩
  have fin : resS G S' fn.results.toList (finE.rowE S' el sz K) → a'.defers = [] ∧ ∃ y, (results fn a'.tmps).run P w' = .ok y w' ∧ (∃ ys x F'', Ending.returned y = .returned x ∧ K ys ∧ OwnRow w' F'' el sz ys x ∧ (∀ b, x.ownBlock = some b → v.ownBlock = some b ∨ w.heap.size ≤ b) ∧ (∀ b, F b → F'' b) ∧ (∀ b, F'' b → F b ∨ w.heap.size ≤ b ∨ v.ownBlock = some b) ∧ (∀ b, F'' b → b < w'.heap.size) ∧ Touch w w' (fun b => v.ownBlock = some b)) := by
    intro hres
    obtain ⟨r, x, hk, hrep, hrun⟩ := resS_sound hG hs.here fn hres
    have M' := hs.mem
    obtain ⟨ys, hK, hown', hblk⟩ := rowE_sound M' hrep hk
    refine ⟨hs.defers, x, hrun, ys, x, F', rfl, hK, hown', fun b hb => (hblk b hb).symm, M'.sub, fun b hb => M'.fresh b hb, M'.bound, ⟨M'.mod.os, M'.mod.tape, M'.mod.output, M'.mod.size, fun b hb hn => M'.mod.block b hb hn⟩⟩
  cases ex with
  | normal => exact fin hq
  | ret => exact fin hq
  | _ => exact hq.elim

end
end Go.Ab
