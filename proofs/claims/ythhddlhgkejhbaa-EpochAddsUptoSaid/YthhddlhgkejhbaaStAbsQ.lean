/- Whole pieces of code over abstract states. -/
import Derived.Test.YthhddlhgkejhbaaStAbsPf
import Derived.Test.YthhddlhgkejhbaaStAbsQt
namespace Go.Ab
set_option linter.unusedVariables false
set_option linter.unusedSimpArgs false

/-- A test, and what is asked on each way. -/
noncomputable def CondP (b : Bool) (t e : Unit → Prop) : Prop := @Bool.rec (fun _ => Prop) (e ()) (t ()) b
theorem cond_mk {b : Bool} {t e : Prop} (h1 : b = true → t) (h2 : b = false → e) : @Bool.rec (fun _ => Prop) e t b := by
  cases b
  · exact h2 rfl
  · exact h1 rfl
theorem cond_pos {b : Bool} {t e : Prop} (h : b = true) (h1 : t) : @Bool.rec (fun _ => Prop) e t b := by subst h; exact h1
theorem cond_neg {b : Bool} {t e : Prop} (h : b = false) (h1 : e) : @Bool.rec (fun _ => Prop) e t b := by subst h; exact h1

theorem CondP.mk {b : Bool} {t e : Unit → Prop} (h1 : b = true → t ()) (h2 : b = false → e ()) : CondP b t e := by
  cases b
  · exact h2 rfl
  · exact h1 rfl
theorem CondP.pos {b : Bool} {t e : Unit → Prop} (h : b = true) (h1 : t ()) : CondP b t e := by subst h; exact h1
theorem CondP.neg {b : Bool} {t e : Unit → Prop} (h : b = false) (h1 : e ()) : CondP b t e := by subst h; exact h1

noncomputable def guardS (S : St) (all : List Oper) (g : Option (Nat × Bool)) (yes no : St → Prop) : Prop :=
  match g with
  | none => yes S
  | some (j, want) =>
    (match all[j]? with
    | some oj =>
      (match oj.dst with
      | some d =>
        (match S.regs d with
        | .v (.bool b) =>
          (match want with
          | true => CondP b (fun _ => yes (S.put (some d) (.v (.bool true)))) (fun _ => no (S.put (some d) (.v (.bool false))))
          | false => CondP b (fun _ => no (S.put (some d) (.v (.bool true)))) (fun _ => yes (S.put (some d) (.v (.bool false)))))
        | .v (.tuple _) => no S
        | _ => False)
      | none => False)
    | none => False)

noncomputable def runOps (P : Program) (G : Gm) (all : List Oper) (l : List Oper) : St → (St → Prop) → Prop :=
  List.rec (motive := fun _ => St → (St → Prop) → Prop) (fun S K => K S)
    (fun o _ ih S K => guardS S all o.guard (fun S => step2 P G S o fun S => ih S K) (fun S => Chk (S.okD o.dst) <| putS S o.dst (.v undef) fun S => ih S K)) l
theorem runOps_nil {P : Program} {G : Gm} {all : List Oper} {S : St} {K : St → Prop} : runOps P G all [] S K = K S := rfl
theorem runOps_cons {P : Program} {G : Gm} {all : List Oper} {o : Oper} {r : List Oper} {S : St} {K : St → Prop} : runOps P G all (o :: r) S K =
    guardS S all o.guard (fun S => step2 P G S o fun S => runOps P G all r S K) (fun S => Chk (S.okD o.dst) <| putS S o.dst (.v undef) fun S => runOps P G all r S K) := rfl

/-- From one state to a plainer one: something is let go. -/
structure Weak (S S' : St) : Prop where
  out : ∀ (C : Ctx) (a : Act) (w : World) (F : Nat → Prop) (e : Env), Sat C S a w F e → ∃ F' e', Sat C S' a w F' e'
theorem Weak.refl (S : St) : Weak S S := ⟨fun C a w F e h => ⟨F, e, h⟩⟩
theorem Weak.trans {S1 S2 S3 : St} (h : Weak S1 S2) (k : Weak S2 S3) : Weak S1 S3 :=
  ⟨fun C a w F e hs => let ⟨F1, e1, h1⟩ := h.out C a w F e hs; k.out C a w F1 e1 h1⟩

/-! ### Regions whose order is drawn -/
/-- In which order a region's head is gone through: an operation whose value nothing changes may be taken first; where several that do something may come up, each is followed. -/
inductive Plan where
  | fin
  | take (i : Nat) (p : Plan)
  | alt (i : Nat) (p q : Plan)
  | nil

/-- Is object o a variable that nobody writes meanwhile (W: what may be written)? -/
def memB (W : List Nat) (o : Nat) : Bool := W.any fun k => Nat.beq k o
def stillB (W : List Nat) (H0 : List Ob) (o : Nat) : Bool :=
  match H0[o]? with
  | some (.var _ _) => (match memB W o with | true => false | false => true)
  | _ => false
/-- May it be taken first? -/
def takeB (first : Bool) (W : List Nat) (H0 : List Ob) (S : St) (op : Op) : Bool :=
  match op with
  | .load _ A => (match S.ev A with | .ptr o _ => stillB W H0 o | .eptr _ => first | _ => false)
  | .convert _ _ A => (match S.ev A with | .v _ => true | _ => false)
  | _ => true

/-- Variables that are not to be written, out of sight. -/
def hideH (W : List Nat) : Nat → List Ob → List Ob
  | _, [] => []
  | k, .var T cs :: r => (match memB W k with | true => .var T cs | false => .gone) :: hideH W (k + 1) r
  | k, x :: r => x :: hideH W (k + 1) r
/-- .. and back again. -/
def showH (W : List Nat) : Nat → List Ob → List Ob → List Ob
  | _, [], r => r
  | k, .var T cs :: r, y :: s => (match memB W k with | true => y | false => .var T cs) :: showH W (k + 1) r s
  | k, _ :: r, y :: s => y :: showH W (k + 1) r s
  | _, _ :: _, [] => []
def hide (W : List Nat) (S : St) : St := { S with base := S.heap.length, heap := hideH W 0 S.heap }
def unhide (W : List Nat) (S S' : St) : St := { S' with base := S.base, heap := showH W 0 S.heap S'.heap }
def unhideF (W : List Nat) (S S' : St) (K : St → Prop) : Prop :=
  match S' with
  | ⟨n, _, regs, H⟩ => force1 n fun n => force1 S.base fun b => forceH (showH W 0 S.heap H) fun H => K ⟨n, b, regs, H⟩
theorem unhideF_eq (W : List Nat) (S S' : St) (K : St → Prop) : unhideF W S S' K = K (unhide W S S') := by
  cases S'; simp only [unhideF, forceH_eq, force1_eq, unhide]
def hideF (W : List Nat) (S : St) (K : St → Prop) : Prop :=
  match S with
  | ⟨n, _, regs, H⟩ => force1 n fun n => forceH (hideH W 0 H) fun H' => K ⟨n, H'.length, regs, H'⟩
theorem hideH_length (W : List Nat) : ∀ (H : List Ob) (k : Nat), (hideH W k H).length = H.length
  | [], _ => rfl
  | x :: r, k => by cases x <;> simp [hideH, hideH_length W r (k + 1)]
theorem hideF_eq (W : List Nat) (S : St) (K : St → Prop) : hideF W S K = K (hide W S) := by
  cases S; simp only [hideF, forceH_eq, force1_eq, hide, hideH_length]

structure Both (p q : Prop) : Prop where
  l : p
  r : q

noncomputable def runPlan (P : Program) (G : Gm) (all : List Oper) (W : List Nat) (H0 : List Ob) (pl : Plan) : Bool → St → (St → Prop) → Prop :=
  Plan.rec (motive := fun _ => Bool → St → (St → Prop) → Prop)
    (fun _ S K => K S)
    (fun i _ ih first S K => match all[i]? with
      | some o => guardS S all o.guard (fun S => Chk (S.okD o.dst) <| Chk (takeB first W H0 S o.op) <| valOp G.tys S o.op fun r => hookR (hookB S o.op) r fun r => putS S o.dst r fun S => ih first S K)
          (fun S => Chk (S.okD o.dst) <| putS S o.dst (.v undef) fun S => ih first S K)
      | none => False)
    (fun i _ _ ihp ihq first S K => Both
      (match all[i]? with
      | some o => guardS S all o.guard (fun S => hideF W S fun S1 => step2 P G S1 o fun S2 => unhideF W S S2 fun S => ihp false S K)
          (fun S => Chk (S.okD o.dst) <| putS S o.dst (.v undef) fun S => ihp false S K)
      | none => False) (ihq first S K))
    (fun _ _ _ => True) pl
theorem runPlan_fin {P : Program} {G : Gm} {all : List Oper} {W : List Nat} {H0 : List Ob} {first : Bool} {S : St} {K : St → Prop} : runPlan P G all W H0 .fin first S K = K S := rfl
theorem runPlan_take {P : Program} {G : Gm} {all : List Oper} {W : List Nat} {H0 : List Ob} {i : Nat} {p : Plan} {first : Bool} {S : St} {K : St → Prop} : runPlan P G all W H0 (.take i p) first S K =
    (match all[i]? with
      | some o => guardS S all o.guard (fun S => Chk (S.okD o.dst) <| Chk (takeB first W H0 S o.op) <| valOp G.tys S o.op fun r => hookR (hookB S o.op) r fun r => putS S o.dst r fun S => runPlan P G all W H0 p first S K)
          (fun S => Chk (S.okD o.dst) <| putS S o.dst (.v undef) fun S => runPlan P G all W H0 p first S K)
      | none => False) := rfl
theorem runPlan_alt {P : Program} {G : Gm} {all : List Oper} {W : List Nat} {H0 : List Ob} {i : Nat} {p q : Plan} {first : Bool} {S : St} {K : St → Prop} : runPlan P G all W H0 (.alt i p q) first S K =
    Both (match all[i]? with
      | some o => guardS S all o.guard (fun S => hideF W S fun S1 => step2 P G S1 o fun S2 => unhideF W S S2 fun S => runPlan P G all W H0 p false S K)
          (fun S => Chk (S.okD o.dst) <| putS S o.dst (.v undef) fun S => runPlan P G all W H0 p false S K)
      | none => False) (runPlan P G all W H0 q first S K) := rfl

def Plan.alts : Plan → List Nat
  | .alt i _ q => i :: q.alts
  | _ => []
/-- The plan tells all orders that there are. -/
def planB (ops : Array Oper) (n : Nat) : Plan → Nat → Array Bool → Bool → Bool
  | .fin, f, had, top => top && Nat.beq f 0 && Region.seqB .any ops (ops.size - n) n had
  | .take i p, f, had, top => top && (match f with
      | f + 1 => Nat.blt i n && (Region.ready .any ops had).contains i && Region.free .any ops had i && planB ops n p f (had.setIfInBounds i true) true
      | 0 => false)
  | .alt i p q, f, had, top => (!top || (Region.ready .any ops had == (Plan.alt i p q).alts)) && (match f with
      | f + 1 => Nat.blt i n && planB ops n p f (had.setIfInBounds i true) true
      | 0 => false) && planB ops n q f had false
  | .nil, _, _, top => !top
def drawB (ops : Array Oper) (n : Nat) (pl : Plan) : Bool :=
  Region.noSelect ops && (decide (n = ops.size) || (decide (n < ops.size) && Region.sinkB .any ops n && Region.chainB .any ops n)) && planB ops n pl n (Array.replicate ops.size false) true

/-- A region whose order is drawn: its first n operations by a plan, whatever M says then; and from there, after something is let go, the others. -/
structure Draw (P : Program) (G : Gm) (ops : Array Oper) (S : St) (K : St → Prop) : Prop where
  out : ∃ (n : Nat) (pl : Plan) (W : List Nat) (M : St → Prop), drawB ops n pl = true ∧ runPlan P G ops.toList W S.heap pl true S M ∧ ∀ S', M S' → ∃ S'', Weak S' S'' ∧ runOps P G ops.toList (ops.toList.drop n) S'' K

/-- One plan, no way apart. -/
theorem Draw.one {P : Program} {G : Gm} {ops : Array Oper} {S : St} {K : St → Prop} (n : Nat) (pl : Plan) (W : List Nat) (hB : drawB ops n pl = true) (h : runPlan P G ops.toList W S.heap pl true S fun S' => runOps P G ops.toList (ops.toList.drop n) S' K) : Draw P G ops S K :=
  ⟨⟨n, pl, W, _, hB, h, fun S' h => ⟨S', Weak.refl S', h⟩⟩⟩
/-- Several orders, which all come to one state. -/
theorem Draw.many {P : Program} {G : Gm} {ops : Array Oper} {S : St} {K : St → Prop} (n : Nat) (pl : Plan) (W : List Nat) (S0 : St) (hB : drawB ops n pl = true) (h : runPlan P G ops.toList W S.heap pl true S fun S' => Weak S' S0) (hk : runOps P G ops.toList (ops.toList.drop n) S0 K) : Draw P G ops S K :=
  ⟨⟨n, pl, W, _, hB, h, fun S' h => ⟨S0, h, hk⟩⟩⟩

def refineC (S : St) (c : Operand) (b : Bool) : St :=
  match c with
  | .tmp t => S.put (some t) (.v (.bool b))
  | _ => S

def seqK (k : St → (Exit → St → Prop) → Prop) (Q : Exit → St → Prop) : Exit → St → Prop := fun e S => match e with | .normal => k S Q | e => Q e S
def blockK (id : Nat) (Q : Exit → St → Prop) : Exit → St → Prop := fun e S => match e with | .exit i => (match Nat.beq i id with | true => Q .normal S | false => Q (.exit i) S) | e => Q e S
def scopeK (Q : Exit → St → Prop) : Exit → St → Prop := fun e S => match e with | .goto _ => False | e => Q e S
noncomputable def run (P : Program) (G : Gm) (c : Code) : St → (Exit → St → Prop) → Prop :=
  Code.rec (motive := fun _ => St → (Exit → St → Prop) → Prop)
    (fun S Q => Q .normal S)
    (fun _ ops draw S Q => match draw with | false => runOps P G ops.toList ops.toList S (Q .normal) | true => Draw P G ops S (Q .normal))
    (fun _ _ x y S Q => x S (seqK y Q))
    (fun c _ _ x y S Q => match S.ev c with | .v (.bool b) => CondP b (fun _ => x (refineC S c true) Q) (fun _ => y (refineC S c false) Q) | _ => False)
    (fun id _ x S Q => x S (blockK id Q))
    (fun _ _ _ _ => False)
    (fun _ _ _ _ _ _ _ _ => False)
    (fun id S Q => Q (.exit id) S)
    (fun _ x S Q => x S (scopeK Q))
    (fun _ S Q => Q .normal S)
    (fun _ _ _ => False)
    (fun S Q => Q .ret S)
    (fun _ _ _ => False) c
theorem run_cond {P : Program} {G : Gm} {c : Operand} {x y : Code} {S : St} {Q : Exit → St → Prop} : run P G (.cond c x y) S Q =
    (match S.ev c with | .v (.bool b) => CondP b (fun _ => run P G x (refineC S c true) Q) (fun _ => run P G y (refineC S c false) Q) | _ => False) := rfl

section
variable {P : Program} {G : Gm} {C : Ctx} {S : St} {a : Act} {w w' : World} {F F' : Nat → Prop} {e e' : Env}

theorem put_self {a : Act} {d : Nat} {x : Value} (h : a.tmps.getD d undef = x) : a.put (some d) x = a := by
  unfold Act.put
  simp only
  congr 1
  apply Array.ext
  · simp
  · intro i h1 h2
    rw [Array.getElem_setIfInBounds]
    split
    · rename_i hi
      subst hi
      rw [← h, Array.getD_eq_getD_getElem?, Array.getElem?_eq_getElem h2]; rfl
    · rfl

/-- A register that is known to hold a truth value. -/
theorem Sat.refine (h : Sat C S a w F e) {d : Nat} {b : Bool} (hd : S.regs d = .v (.bool b)) {c : Bool} (hb : b = c) : Sat C (S.put (some d) (.v (.bool c))) a w F e := by
  subst hb
  refine ⟨h.defers, h.size, h.base, fun t => ?_, h.mem⟩
  simp only [St.put]
  by_cases ht : t = d
  · subst ht; rw [upd_same, ← hd]; exact h.regs t
  · rw [upd_other _ _ _ ht]; exact h.regs t

theorem guard_yield {all : List Oper} {j d : Nat} {oj : Oper} {b : Bool} (h : Sat C S a w F e) (hj : all[j]? = some oj) (hd : oj.dst = some d) (hr : S.regs d = .v (.bool b)) : yielded all.toArray a.tmps j = some b := by
  have h1 := h.regs d
  rw [hr] at h1
  have h2 := h1.v_inv
  have h3 : a.tmps[d]? = some (.bool b) := by
    rw [Array.getD_eq_getD_getElem?] at h2
    cases hx : a.tmps[d]? with
    | none => rw [hx] at h2; simp [undef] at h2
    | some x => rw [hx] at h2; simp at h2; rw [h2]
  unfold yielded
  simp [hj, hd, h3]

theorem guard_none {all : List Oper} {j d : Nat} {oj : Oper} {l : Array Value} (h : Sat C S a w F e) (hj : all[j]? = some oj) (hd : oj.dst = some d) (hr : S.regs d = .v (.tuple l)) : yielded all.toArray a.tmps j = none := by
  have h1 := h.regs d
  rw [hr] at h1
  have h2 := h1.v_inv
  unfold yielded
  rw [Array.getD_eq_getD_getElem?] at h2
  cases hx : a.tmps[d]? with
  | none => simp [hj, hd, hx]
  | some x => rw [hx] at h2; simp at h2; simp [hj, hd, hx, h2]

theorem guard_sound {all : List Oper} (h : Sat C S a w F e) (o : Oper) {yes no : St → Prop} (hg : guardS S all o.guard yes no) :
    (Region.wanted o (yielded all.toArray a.tmps) = true ∧ ∃ S', yes S' ∧ Sat C S' a w F e) ∨ (Region.wanted o (yielded all.toArray a.tmps) = false ∧ ∃ S', no S' ∧ Sat C S' a w F e) := by
  unfold guardS at hg
  split at hg
  · rename_i hn
    exact .inl ⟨by simp [Region.wanted, hn], S, hg, h⟩
  · rename_i j want hgd
    split at hg
    case h_2 => exact hg.elim
    rename_i oj hj
    split at hg
    case h_2 => exact hg.elim
    rename_i d hd
    split at hg
    case h_3 => exact hg.elim
    case h_2 =>
      rename_i l hr
      exact .inr ⟨by simp [Region.wanted, hgd, guard_none h hj hd hr], S, hg, h⟩
    rename_i b hr
    have hy := guard_yield h hj hd hr
    have hw : Region.wanted o (yielded all.toArray a.tmps) = (b == want) := by
      simp [Region.wanted, hgd, hy]
    rw [hw]
    cases want <;> cases b <;> simp only [CondP] at hg
    · exact .inl ⟨rfl, _, hg, h.refine hr rfl⟩
    · exact .inr ⟨rfl, _, hg, h.refine hr rfl⟩
    · exact .inr ⟨rfl, _, hg, h.refine hr rfl⟩
    · exact .inl ⟨rfl, _, hg, h.refine hr rfl⟩

theorem skip_sat (h : Sat C S a w F e) {d : Option Nat} (hd : S.okD d = true) : Sat C (S.put d (.v undef)) (a.put d undef) w F e := by
  have := h.next (Later.refl w F) (EnvLe.refl e) h.mem (r := .v undef) (x := undef) .v hd
  exact this

theorem runOps_sound (hG : TyOk P G.tys) (all : List Oper) (K : St → Prop) (Q : Exit → Act → World → Prop) (hK : ∀ S a w F e, K S → Sat C S a w F e → Q .normal a w) : ∀ (l : List Oper) (S : St) (a : Act) (w : World) (F : Nat → Prop) (e : Env), Sat C S a w F e → runOps P G all l S K →
    wpList P all.toArray Q l a w
  | [], S, a, w, F, e, h, hr => hK S a w F e hr h
  | o :: r, S, a, w, F, e, h, hr => by
    simp only [runOps_cons, step2_eq, putS_eq] at hr
    unfold wpList
    rcases guard_sound h o hr with ⟨hw, S', hy, hS⟩ | ⟨hw, S', hdn, hS⟩
    · rw [if_pos hw]
      left
      have hg := step_sound hG hS o _ Q hy
      exact Oper.wp_mono (fun a' w' ⟨S2, F2, e2, hk, hs⟩ => runOps_sound hG all K Q hK r S2 a' w' F2 e2 hs hk) hg
    · rw [if_neg (by rw [hw]; simp)]
      obtain ⟨hd, hn⟩ := hdn.elim
      exact runOps_sound hG all K Q hK r _ _ w F e (skip_sat hS hd) hn

end
end Go.Ab
