/- Regions whose order is drawn: the head's operations in whatever order, then the tail's in a row. -/
import Derived.Test.YtgmejofagmfcfaaGreatDoorStFwB
import Derived.Scope
import Derived.OrdersHeld
import Derived.StillTail
import Derived.Deep.LoopGhost
import Derived.IntWalk
import Derived.LoopN
namespace Go.Ab
set_option linter.unusedVariables false
section
variable {P : Program} {ops : Array Oper} {Q : Exit → Act → World → Prop} {S : World → Prop} {n : Nat} {L : Act → World → Prop}

/-- Whatever order the head's operations (f of them are left) are picked in, S holds behind each; then the tail comes. -/
def Mix (P : Program) (ops : Array Oper) (Q : Exit → Act → World → Prop) (S : World → Prop) (n : Nat) (L : Act → World → Prop) : Nat → Array Bool → Act → World → Prop
  | 0, had, a, w => Region.seqB .any ops (ops.size - n) n had = true ∧ L a w
  | f + 1, had, a, w => Region.ready .any ops had ≠ [] ∧ ∀ i ∈ Region.ready .any ops had, i < n ∧ wpOp P ops Q i (fun a' w' => S w' ∧ Mix P ops Q S n L f (had.setIfInBounds i true) a' w') a w

theorem mix_any (hL : ∀ had a w, Region.seqB .any ops (ops.size - n) n had = true → L a w → wpAny P .any ops Q (ops.size - n) had a w) :
    ∀ (f : Nat) (had : Array Bool) (a : Act) (w : World), Mix P ops Q S n L f had a w → wpAny P .any ops Q (f + (ops.size - n)) had a w := by
  intro f
  induction f with
  | zero => intro had a w h; rw [Nat.zero_add]; exact hL _ _ _ h.1 h.2
  | succ f ih =>
    intro had a w h
    have e : f + 1 + (ops.size - n) = (f + (ops.size - n)) + 1 := by omega
    rw [e]
    exact ⟨fun h0 => absurd h0 h.1, fun i hi => wpOp_mono (fun a' w' h' => ih _ a' w' h'.2) (h.2 i hi).2⟩

/-- While one of the head is left, only the head's come up. -/
def HeadOnly (ops : Array Oper) (n : Nat) : Prop := ∀ (had : Array Bool), HeadInv .any ops n had → ∀ i, i < n → had.getD i true = false → ∀ j ∈ Region.ready .any ops had, j < n

theorem headOnly_of {n : Nat} (h : (decide (n = ops.size) || (decide (n < ops.size) && Region.sinkB .any ops n && Region.chainB .any ops n)) = true) : HeadOnly ops n := by
  intro had inv i hi hun j hj
  simp only [Bool.or_eq_true, Bool.and_eq_true, decide_eq_true_eq] at h
  rcases h with rfl | ⟨⟨hn, hs⟩, hc⟩
  · obtain ⟨_, oj, hoj, _⟩ := mem_ready.1 hj
    exact (Array.getElem?_eq_some_iff.1 hoj).1
  · exact (Nat.lt_or_ge j n).resolve_right fun h => tail_waits hs hc hn inv _ i rfl hi hun j h hj

theorem mix_take {i : Nat} {oi : Oper} {v : Value} (hi : ops[i]? = some oi) (hsel : Region.noSelect ops = true) (hh : HeadOnly ops n) (hin : i < n)
    (hQ : ∀ c a w, Q (.panic c) (a.put oi.dst v) w → Q (.panic c) a w) :
    ∀ (f : Nat) (had : Array Bool) (a : Act) (w : World), HeadInv .any ops n had →
      (∀ j oj, ops[j]? = some oj → j ≠ i → had.getD j true = false → (∀ e ∈ oj.after, Region.binds .any e = true → e.on ≠ i) → oi.apart ops oj = true) →
      i ∈ Region.ready .any ops had → YieldsIf P ops S oi v a → S w → Mix P ops Q S n L f (had.setIfInBounds i true) (a.put oi.dst v) w → Mix P ops Q S n L (f + 1) had a w := by
  have sel := Region.noSelect_spec hsel
  intro f
  induction f with
  | zero =>
    intro had a w inv _ hr hy hS H
    have hun := (mem_ready.1 hr).1
    refine ⟨fun h => (by rw [h] at hr; cases hr), fun j hj => ?_⟩
    have hjn := hh had inv i hin hun j hj
    refine ⟨hjn, ?_⟩
    by_cases hji : j = i
    · subst hji; exact hy.wpOp hi hS ⟨hS, H⟩
    · have := seqB_ready H.1 j (ready_mono hj hji)
      omega
  | succ f ih =>
    intro had a w inv hfree hr hy hS H
    have hun := (mem_ready.1 hr).1
    refine ⟨fun h => (by rw [h] at hr; cases hr), fun j hj => ?_⟩
    have hjn := hh had inv i hin hun j hj
    refine ⟨hjn, ?_⟩
    by_cases hji : j = i
    · subst hji; exact hy.wpOp hi hS ⟨hS, H⟩
    obtain ⟨hjun, oj, hoj, hall⟩ := mem_ready.1 hj
    have hnot : ∀ e ∈ oj.after, Region.binds .any e = true → e.on ≠ i := by
      intro e he hb heq
      have k := hall e he hb
      rw [heq, getD_both hun] at k
      cases k
    have moved := wpOp_putIf hoj (hfree j oj hoj hji hjun hnot) (fun cs b => sel i oi cs b hi) (fun cs b => sel j oj cs b hoj) hQ hy (H.2 j (ready_mono hj hji)).2
    refine wpOp_mono (fun a' w' h3 => ⟨h3.2.1, ih (had.setIfInBounds j true) a' w' (inv.set hj hjn) ?_ (ready_mono hr (Ne.symm hji)) h3.1 h3.2.1 ?_⟩) moved
    · intro k ok hk hki hku hno
      refine hfree k ok hk hki ?_ hno
      by_cases hjk : j = k
      · subst hjk; exact hjun
      · rwa [getD_set_ne true hjk] at hku
    · rw [Array.setIfInBounds_comm _ _ hji]
      exact h3.2.2

/-- An end without a panic. -/
def Calm (R : Act → World → Prop) : Exit → Act → World → Prop := fun x a w => x = .normal ∧ R a w
theorem Calm.noPanic {R : Act → World → Prop} {d : Option Tmp} {v : Value} : ∀ c a w, Calm R (.panic c) (a.put d v) w → Calm R (.panic c) a w := fun c a w h => by cases h.1
end
end Go.Ab

/- Whole pieces of code over abstract states. -/
namespace Go.Ab
set_option linter.unusedVariables false
set_option linter.unusedSimpArgs false

/-- A test, and what is asked on each way. -/
noncomputable def CondP (b : Bool) (t e : Unit → Prop) : Prop := @Bool.rec (fun _ => Prop) (e ()) (t ()) b
theorem cond_mk {b : Bool} {t e : Prop} (h1 : b = true → t) (h2 : b = false → e) : @Bool.rec (fun _ => Prop) e t b := by
  cases b
  · exact h2 rfl
  · exact h1 rfl
theorem cond_pos {b : Bool} {t e : Prop} (h : b = true) (h1 : t) : @Bool.rec (fun _ => Prop) e t b := by subst h; exact h1
theorem cond_neg {b : Bool} {t e : Prop} (h : b = false) (h1 : e) : @Bool.rec (fun _ => Prop) e t b := by subst h; exact h1

theorem CondP.mk {b : Bool} {t e : Unit → Prop} (h1 : b = true → t ()) (h2 : b = false → e ()) : CondP b t e := by
  cases b
  · exact h2 rfl
  · exact h1 rfl
theorem CondP.pos {b : Bool} {t e : Unit → Prop} (h : b = true) (h1 : t ()) : CondP b t e := by subst h; exact h1
theorem CondP.neg {b : Bool} {t e : Unit → Prop} (h : b = false) (h1 : e ()) : CondP b t e := by subst h; exact h1

noncomputable def guardS (S : St) (all : List Oper) (g : Option (Nat × Bool)) (yes no : St → Prop) : Prop :=
  match g with
  | none => yes S
  | some (j, want) =>
    (match all[j]? with
    | some oj =>
      (match oj.dst with
      | some d =>
        (match S.regs d with
        | .v (.bool b) =>
          (match want with
          | true => CondP b (fun _ => yes (S.put (some d) (.v (.bool true)))) (fun _ => no (S.put (some d) (.v (.bool false))))
          | false => CondP b (fun _ => no (S.put (some d) (.v (.bool true)))) (fun _ => yes (S.put (some d) (.v (.bool false)))))
        | .v (.tuple _) => no S
        | _ => False)
      | none => False)
    | none => False)

noncomputable def runOps (P : Program) (G : Gm) (all : List Oper) (l : List Oper) : St → (St → Prop) → Prop :=
  List.rec (motive := fun _ => St → (St → Prop) → Prop) (fun S K => K S)
    (fun o _ ih S K => guardS S all o.guard (fun S => step2 P G S o fun S => ih S K) (fun S => Chk (S.okD o.dst) <| putS S o.dst (.v undef) fun S => ih S K)) l
theorem runOps_nil {P : Program} {G : Gm} {all : List Oper} {S : St} {K : St → Prop} : runOps P G all [] S K = K S := rfl
theorem runOps_cons {P : Program} {G : Gm} {all : List Oper} {o : Oper} {r : List Oper} {S : St} {K : St → Prop} : runOps P G all (o :: r) S K =
    guardS S all o.guard (fun S => step2 P G S o fun S => runOps P G all r S K) (fun S => Chk (S.okD o.dst) <| putS S o.dst (.v undef) fun S => runOps P G all r S K) := rfl

/-- From one state to a plainer one: something is let go. -/
structure Weak (S S' : St) : Prop where
  out : ∀ (C : Ctx) (a : Act) (w : World) (F : Nat → Prop) (e : Env), Sat C S a w F e → ∃ F' e', Sat C S' a w F' e'
theorem Weak.refl (S : St) : Weak S S := ⟨fun C a w F e h => ⟨F, e, h⟩⟩
theorem Weak.trans {S1 S2 S3 : St} (h : Weak S1 S2) (k : Weak S2 S3) : Weak S1 S3 :=
  ⟨fun C a w F e hs => let ⟨F1, e1, h1⟩ := h.out C a w F e hs; k.out C a w F1 e1 h1⟩

/-! ### Regions whose order is drawn -/
/-- In which order a region's head is gone through: an operation whose value nothing changes may be taken first; where several that do something may come up, each is followed. -/
inductive Plan where
  | fin
  | take (i : Nat) (p : Plan)
  | alt (i : Nat) (p q : Plan)
  | nil

/-- Is object o a variable that nobody writes meanwhile (W: what may be written)? -/
def memB (W : List Nat) (o : Nat) : Bool := W.any fun k => Nat.beq k o
def stillB (W : List Nat) (H0 : List Ob) (o : Nat) : Bool :=
  match H0[o]? with
  | some (.var _ _) => (match memB W o with | true => false | false => true)
  | _ => false
/-- May it be taken first? -/
def takeB (first : Bool) (W : List Nat) (H0 : List Ob) (S : St) (op : Op) : Bool :=
  match op with
  | .load _ A => (match S.ev A with | .ptr o _ => stillB W H0 o | .eptr _ => first | _ => false)
  | .convert _ _ A => (match S.ev A with | .v _ => true | _ => false)
  | _ => true

/-- Variables that are not to be written, out of sight. -/
def hideH (W : List Nat) : Nat → List Ob → List Ob
  | _, [] => []
  | k, .var T cs :: r => (match memB W k with | true => .var T cs | false => .gone) :: hideH W (k + 1) r
  | k, x :: r => x :: hideH W (k + 1) r
/-- .. and back again. -/
def showH (W : List Nat) : Nat → List Ob → List Ob → List Ob
  | _, [], r => r
  | k, .var T cs :: r, y :: s => (match memB W k with | true => y | false => .var T cs) :: showH W (k + 1) r s
  | k, _ :: r, y :: s => y :: showH W (k + 1) r s
  | _, _ :: _, [] => []
def hide (W : List Nat) (S : St) : St := { S with base := S.heap.length, heap := hideH W 0 S.heap }
def unhide (W : List Nat) (S S' : St) : St := { S' with base := S.base, heap := showH W 0 S.heap S'.heap }
def unhideF (W : List Nat) (S S' : St) (K : St → Prop) : Prop :=
  match S' with
  | ⟨n, _, regs, H⟩ => force1 n fun n => force1 S.base fun b => forceH (showH W 0 S.heap H) fun H => K ⟨n, b, regs, H⟩
theorem unhideF_eq (W : List Nat) (S S' : St) (K : St → Prop) : unhideF W S S' K = K (unhide W S S') := by
  cases S'; simp only [unhideF, forceH_eq, force1_eq, unhide]
def hideF (W : List Nat) (S : St) (K : St → Prop) : Prop :=
  match S with
  | ⟨n, _, regs, H⟩ => force1 n fun n => forceH (hideH W 0 H) fun H' => K ⟨n, H'.length, regs, H'⟩
theorem hideH_length (W : List Nat) : ∀ (H : List Ob) (k : Nat), (hideH W k H).length = H.length
  | [], _ => rfl
  | x :: r, k => by cases x <;> simp [hideH, hideH_length W r (k + 1)]
theorem hideF_eq (W : List Nat) (S : St) (K : St → Prop) : hideF W S K = K (hide W S) := by
  cases S; simp only [hideF, forceH_eq, force1_eq, hide, hideH_length]

structure Both (p q : Prop) : Prop where
  l : p
  r : q

noncomputable def runPlan (P : Program) (G : Gm) (all : List Oper) (W : List Nat) (H0 : List Ob) (pl : Plan) : Bool → St → (St → Prop) → Prop :=
  Plan.rec (motive := fun _ => Bool → St → (St → Prop) → Prop)
    (fun _ S K => K S)
    (fun i _ ih first S K => match all[i]? with
      | some o => guardS S all o.guard (fun S => Chk (S.okD o.dst) <| Chk (takeB first W H0 S o.op) <| valOp G.tys S o.op fun r => hookR (hookB S o.op) r fun r => putS S o.dst r fun S => ih first S K)
          (fun S => Chk (S.okD o.dst) <| putS S o.dst (.v undef) fun S => ih first S K)
      | none => False)
    (fun i _ _ ihp ihq first S K => Both
      (match all[i]? with
      | some o => guardS S all o.guard (fun S => hideF W S fun S1 => step2 P G S1 o fun S2 => unhideF W S S2 fun S => ihp false S K)
          (fun S => Chk (S.okD o.dst) <| putS S o.dst (.v undef) fun S => ihp false S K)
      | none => False) (ihq first S K))
    (fun _ _ _ => True) pl
theorem runPlan_fin {P : Program} {G : Gm} {all : List Oper} {W : List Nat} {H0 : List Ob} {first : Bool} {S : St} {K : St → Prop} : runPlan P G all W H0 .fin first S K = K S := rfl
theorem runPlan_take {P : Program} {G : Gm} {all : List Oper} {W : List Nat} {H0 : List Ob} {i : Nat} {p : Plan} {first : Bool} {S : St} {K : St → Prop} : runPlan P G all W H0 (.take i p) first S K =
    (match all[i]? with
      | some o => guardS S all o.guard (fun S => Chk (S.okD o.dst) <| Chk (takeB first W H0 S o.op) <| valOp G.tys S o.op fun r => hookR (hookB S o.op) r fun r => putS S o.dst r fun S => runPlan P G all W H0 p first S K)
          (fun S => Chk (S.okD o.dst) <| putS S o.dst (.v undef) fun S => runPlan P G all W H0 p first S K)
      | none => False) := rfl
theorem runPlan_alt {P : Program} {G : Gm} {all : List Oper} {W : List Nat} {H0 : List Ob} {i : Nat} {p q : Plan} {first : Bool} {S : St} {K : St → Prop} : runPlan P G all W H0 (.alt i p q) first S K =
    Both (match all[i]? with
      | some o => guardS S all o.guard (fun S => hideF W S fun S1 => step2 P G S1 o fun S2 => unhideF W S S2 fun S => runPlan P G all W H0 p false S K)
          (fun S => Chk (S.okD o.dst) <| putS S o.dst (.v undef) fun S => runPlan P G all W H0 p false S K)
      | none => False) (runPlan P G all W H0 q first S K) := rfl

def Plan.alts : Plan → List Nat
  | .alt i _ q => i :: q.alts
  | _ => []
/-- The plan tells all orders that there are. -/
def planB (ops : Array Oper) (n : Nat) : Plan → Nat → Array Bool → Bool → Bool
  | .fin, f, had, top => top && Nat.beq f 0 && Region.seqB .any ops (ops.size - n) n had
  | .take i p, f, had, top => top && (match f with
      | f + 1 => Nat.blt i n && (Region.ready .any ops had).contains i && Region.free .any ops had i && planB ops n p f (had.setIfInBounds i true) true
      | 0 => false)
  | .alt i p q, f, had, top => (!top || (Region.ready .any ops had == (Plan.alt i p q).alts)) && (match f with
      | f + 1 => Nat.blt i n && planB ops n p f (had.setIfInBounds i true) true
      | 0 => false) && planB ops n q f had false
  | .nil, _, _, top => !top
def drawB (ops : Array Oper) (n : Nat) (pl : Plan) : Bool :=
  Region.noSelect ops && (decide (n = ops.size) || (decide (n < ops.size) && Region.sinkB .any ops n && Region.chainB .any ops n)) && planB ops n pl n (Array.replicate ops.size false) true

/-- A region whose order is drawn: its first n operations by a plan, whatever M says then; and from there, after something is let go, the others. -/
structure Draw (P : Program) (G : Gm) (ops : Array Oper) (S : St) (K : St → Prop) : Prop where
  out : ∃ (n : Nat) (pl : Plan) (W : List Nat) (M : St → Prop), drawB ops n pl = true ∧ runPlan P G ops.toList W S.heap pl true S M ∧ ∀ S', M S' → ∃ S'', Weak S' S'' ∧ runOps P G ops.toList (ops.toList.drop n) S'' K

/-- One plan, no way apart. -/
theorem Draw.one {P : Program} {G : Gm} {ops : Array Oper} {S : St} {K : St → Prop} (n : Nat) (pl : Plan) (W : List Nat) (hB : drawB ops n pl = true) (h : runPlan P G ops.toList W S.heap pl true S fun S' => runOps P G ops.toList (ops.toList.drop n) S' K) : Draw P G ops S K :=
  ⟨⟨n, pl, W, _, hB, h, fun S' h => ⟨S', Weak.refl S', h⟩⟩⟩
/-- Several orders, which all come to one state. -/
theorem Draw.many {P : Program} {G : Gm} {ops : Array Oper} {S : St} {K : St → Prop} (n : Nat) (pl : Plan) (W : List Nat) (S0 : St) (hB : drawB ops n pl = true) (h : runPlan P G ops.toList W S.heap pl true S fun S' => Weak S' S0) (hk : runOps P G ops.toList (ops.toList.drop n) S0 K) : Draw P G ops S K :=
  ⟨⟨n, pl, W, _, hB, h, fun S' h => ⟨S0, h, hk⟩⟩⟩

def refineC (S : St) (c : Operand) (b : Bool) : St :=
  match c with
  | .tmp t => S.put (some t) (.v (.bool b))
  | _ => S

def seqK (k : St → (Exit → St → Prop) → Prop) (Q : Exit → St → Prop) : Exit → St → Prop := fun e S => match e with | .normal => k S Q | e => Q e S
def blockK (id : Nat) (Q : Exit → St → Prop) : Exit → St → Prop := fun e S => match e with | .exit i => (match Nat.beq i id with | true => Q .normal S | false => Q (.exit i) S) | e => Q e S
def scopeK (Q : Exit → St → Prop) : Exit → St → Prop := fun e S => match e with | .goto _ => False | e => Q e S
noncomputable def run (P : Program) (G : Gm) (c : Code) : St → (Exit → St → Prop) → Prop :=
  Code.rec (motive := fun _ => St → (Exit → St → Prop) → Prop)
    (fun S Q => Q .normal S)
    (fun _ ops draw S Q => match draw with | false => runOps P G ops.toList ops.toList S (Q .normal) | true => Draw P G ops S (Q .normal))
    (fun _ _ x y S Q => x S (seqK y Q))
    (fun c _ _ x y S Q => match S.ev c with | .v (.bool b) => CondP b (fun _ => x (refineC S c true) Q) (fun _ => y (refineC S c false) Q) | _ => False)
    (fun id _ x S Q => x S (blockK id Q))
    (fun _ _ _ _ => False)
    (fun _ _ _ _ _ _ _ _ => False)
    (fun id S Q => Q (.exit id) S)
    (fun _ x S Q => x S (scopeK Q))
    (fun _ S Q => Q .normal S)
    (fun _ _ _ => False)
    (fun S Q => Q .ret S)
    (fun _ _ _ => False) c
theorem run_cond {P : Program} {G : Gm} {c : Operand} {x y : Code} {S : St} {Q : Exit → St → Prop} : run P G (.cond c x y) S Q =
    (match S.ev c with | .v (.bool b) => CondP b (fun _ => run P G x (refineC S c true) Q) (fun _ => run P G y (refineC S c false) Q) | _ => False) := rfl

section
variable {P : Program} {G : Gm} {C : Ctx} {S : St} {a : Act} {w w' : World} {F F' : Nat → Prop} {e e' : Env}

theorem put_self {a : Act} {d : Nat} {x : Value} (h : a.tmps.getD d undef = x) : a.put (some d) x = a := by
  unfold Act.put
  simp only
  congr 1
  apply Array.ext
  · simp
  · intro i h1 h2
    rw [Array.getElem_setIfInBounds]
    split
    · rename_i hi
      subst hi
      rw [← h, Array.getD_eq_getD_getElem?, Array.getElem?_eq_getElem h2]; rfl
    · rfl

/-- A register that is known to hold a truth value. -/
theorem Sat.refine (h : Sat C S a w F e) {d : Nat} {b : Bool} (hd : S.regs d = .v (.bool b)) {c : Bool} (hb : b = c) : Sat C (S.put (some d) (.v (.bool c))) a w F e := by
  subst hb
  refine ⟨h.defers, h.size, h.base, fun t => ?_, h.mem⟩
  simp only [St.put]
  by_cases ht : t = d
  · subst ht; rw [upd_same, ← hd]; exact h.regs t
  · rw [upd_other _ _ _ ht]; exact h.regs t

theorem guard_yield {all : List Oper} {j d : Nat} {oj : Oper} {b : Bool} (h : Sat C S a w F e) (hj : all[j]? = some oj) (hd : oj.dst = some d) (hr : S.regs d = .v (.bool b)) : yielded all.toArray a.tmps j = some b := by
  have h1 := h.regs d
  rw [hr] at h1
  have h2 := h1.v_inv
  have h3 : a.tmps[d]? = some (.bool b) := by
    rw [Array.getD_eq_getD_getElem?] at h2
    cases hx : a.tmps[d]? with
    | none => rw [hx] at h2; simp [undef] at h2
    | some x => rw [hx] at h2; simp at h2; rw [h2]
  unfold yielded
  simp [hj, hd, h3]

theorem guard_none {all : List Oper} {j d : Nat} {oj : Oper} {l : Array Value} (h : Sat C S a w F e) (hj : all[j]? = some oj) (hd : oj.dst = some d) (hr : S.regs d = .v (.tuple l)) : yielded all.toArray a.tmps j = none := by
  have h1 := h.regs d
  rw [hr] at h1
  have h2 := h1.v_inv
  unfold yielded
  rw [Array.getD_eq_getD_getElem?] at h2
  cases hx : a.tmps[d]? with
  | none => simp [hj, hd, hx]
  | some x => rw [hx] at h2; simp at h2; simp [hj, hd, hx, h2]

theorem guard_sound {all : List Oper} (h : Sat C S a w F e) (o : Oper) {yes no : St → Prop} (hg : guardS S all o.guard yes no) :
    (Region.wanted o (yielded all.toArray a.tmps) = true ∧ ∃ S', yes S' ∧ Sat C S' a w F e) ∨ (Region.wanted o (yielded all.toArray a.tmps) = false ∧ ∃ S', no S' ∧ Sat C S' a w F e) := by
  unfold guardS at hg
  split at hg
  · rename_i hn
    exact .inl ⟨by simp [Region.wanted, hn], S, hg, h⟩
  · rename_i j want hgd
    split at hg
    case h_2 => exact hg.elim
    rename_i oj hj
    split at hg
    case h_2 => exact hg.elim
    rename_i d hd
    split at hg
    case h_3 => exact hg.elim
    case h_2 =>
      rename_i l hr
      exact .inr ⟨by simp [Region.wanted, hgd, guard_none h hj hd hr], S, hg, h⟩
    rename_i b hr
    have hy := guard_yield h hj hd hr
    have hw : Region.wanted o (yielded all.toArray a.tmps) = (b == want) := by
      simp [Region.wanted, hgd, hy]
    rw [hw]
    cases want <;> cases b <;> simp only [CondP] at hg
    · exact .inl ⟨rfl, _, hg, h.refine hr rfl⟩
    · exact .inr ⟨rfl, _, hg, h.refine hr rfl⟩
    · exact .inr ⟨rfl, _, hg, h.refine hr rfl⟩
    · exact .inl ⟨rfl, _, hg, h.refine hr rfl⟩

theorem skip_sat (h : Sat C S a w F e) {d : Option Nat} (hd : S.okD d = true) : Sat C (S.put d (.v undef)) (a.put d undef) w F e := by
  have := h.next (Later.refl w F) (EnvLe.refl e) h.mem (r := .v undef) (x := undef) .v hd
  exact this

theorem runOps_sound (hG : TyOk P G.tys) (all : List Oper) (K : St → Prop) (Q : Exit → Act → World → Prop) (hK : ∀ S a w F e, K S → Sat C S a w F e → Q .normal a w) : ∀ (l : List Oper) (S : St) (a : Act) (w : World) (F : Nat → Prop) (e : Env), Sat C S a w F e → runOps P G all l S K →
    wpList P all.toArray Q l a w
  | [], S, a, w, F, e, h, hr => hK S a w F e hr h
  | o :: r, S, a, w, F, e, h, hr => by
    simp only [runOps_cons, step2_eq, putS_eq] at hr
    unfold wpList
    rcases guard_sound h o hr with ⟨hw, S', hy, hS⟩ | ⟨hw, S', hdn, hS⟩
    · rw [if_pos hw]
      left
      have hg := step_sound hG hS o _ Q hy
      exact Oper.wp_mono (fun a' w' ⟨S2, F2, e2, hk, hs⟩ => runOps_sound hG all K Q hK r S2 a' w' F2 e2 hs hk) hg
    · rw [if_neg (by rw [hw]; simp)]
      obtain ⟨hd, hn⟩ := hdn.elim
      exact runOps_sound hG all K Q hK r _ _ w F e (skip_sat hS hd) hn

end
end Go.Ab

/- What is out of sight stays as it is. -/
namespace Go.Ab
set_option linter.unusedVariables false
set_option linter.unusedSimpArgs false
section
variable {P : Program} {G : Gm} {C : Ctx} {S S' : St} {a a' : Act} {H H' H0 : List Ob} {w w' w0 : World} {F F' F0 : Nat → Prop} {e e' e0 : Env} {W : List Nat}

theorem Sat.calm (h : Sat C S a w F e) (T : Touch w w' (fun _ => False)) : Sat C S a w' F e :=
  have L := h.mem.later (T.mono (own' := Owner e S.heap 0) fun _ h => h.elim)
  ⟨h.defers, h.size, h.base, fun t => (h.regs t).mono L (EnvLe.refl e), h.mem.calm T (fun _ hb => hb) (fun _ hb => .inl hb) (fun b hb => Nat.lt_of_lt_of_le (h.mem.bound b hb) T.size)⟩
theorem touch_drew (w : World) : Touch w { w with drawn := w.drawn + 1 } (fun _ => False) := ⟨rfl, rfl, rfl, Nat.le_refl _, fun _ _ _ => rfl⟩

theorem hideH_get (W : List Nat) : ∀ (H : List Ob) (k i : Nat), (hideH W k H)[i]? = (H[i]?).map fun x => match x with | .var T cs => (match memB W (k + i) with | true => .var T cs | false => .gone) | x => x
  | [], k, i => by simp [hideH]
  | x :: r, k, 0 => by cases x <;> first | rfl | (simp [hideH]; done) | (simp [hideH]; rfl)
  | x :: r, k, i + 1 => by
    have := hideH_get W r (k + 1) i
    have e1 : k + 1 + i = k + (i + 1) := by omega
    rw [e1] at this
    cases x <;> simp [hideH, this]

/-- Object o is seen. -/
def Seen (W : List Nat) (H : List Ob) (o : Nat) : Prop := ∀ T cs, H[o]? = some (.var T cs) → memB W o = true

theorem hide_owner {o b : Nat} (h : Owner e (hideH W 0 H) o b) : Owner e H o b ∧ Seen W H o := by
  unfold Owner at h ⊢
  rw [hideH_get] at h
  cases hx : H[o]? with
  | none => rw [hx] at h; exact h.elim
  | some x =>
    rw [hx] at h
    simp only [Option.map_some, Nat.zero_add] at h
    cases x with
    | var T cs =>
      simp only at h
      cases hm : memB W o with
      | true => rw [hm] at h; exact ⟨h, fun T' cs' _ => hm⟩
      | false => rw [hm] at h; exact h.elim
    | row el sz xs => exact ⟨h, fun T' cs' hh => by rw [hx] at hh; cases hh⟩
    | frz sz xs => exact h.elim
    | ext R => exact ⟨h, fun T' cs' hh => by rw [hx] at hh; cases hh⟩
    | gone => exact h.elim
theorem owner_hide {o b : Nat} (h : Owner e H o b) (hs : Seen W H o) : Owner e (hideH W 0 H) o b := by
  unfold Owner at h ⊢
  rw [hideH_get]
  cases hx : H[o]? with
  | none => rw [hx] at h; exact h.elim
  | some x =>
    rw [hx] at h
    simp only [Option.map_some, Nat.zero_add]
    cases x with
    | var T cs => simp only; rw [hs T cs hx]; exact h
    | row el sz xs => exact h
    | frz sz xs => exact h.elim
    | ext R => exact h
    | gone => exact h.elim

theorem showH_get (W : List Nat) : ∀ (H H' : List Ob) (k i : Nat), H.length ≤ H'.length → (showH W k H H')[i]? = match H[i]? with | some (.var T cs) => (match memB W (k + i) with | true => H'[i]? | false => some (.var T cs)) | _ => H'[i]?
  | [], H', k, i, _ => by simp [showH]
  | x :: r, [], k, i, h => by simp at h
  | x :: r, y :: s, k, 0, _ => by
    cases x <;> simp [showH]
    split <;> simp_all
  | x :: r, y :: s, k, i + 1, h => by
    have := showH_get W r s (k + 1) i (by simpa using h)
    have e1 : k + 1 + i = k + (i + 1) := by omega
    rw [e1] at this
    cases x <;> simp [showH, this]
theorem showH_length (W : List Nat) : ∀ (H H' : List Ob) (k : Nat), H.length ≤ H'.length → (showH W k H H').length = H'.length
  | [], H', k, _ => by simp [showH]
  | x :: r, [], k, h => by simp at h
  | x :: r, y :: s, k, h => by
    have := showH_length W r s (k + 1) (by simpa using h)
    cases x <;> simp [showH, this]

/-- The small world of what is seen. -/
def Ctx.at (w : World) (F : Nat → Prop) (e : Env) (W : List Nat) (H : List Ob) : Ctx := ⟨w, fun b => ∃ o, Owner e (hideH W 0 H) o b, e, F⟩

theorem Sat.hide (h : Sat C S a w F e) (W : List Nat) : Sat (Ctx.at w F e W S.heap) (hide W S) a w F e := by
  refine ⟨h.defers, h.size, h.mem.heap.len, h.regs, ⟨⟨?_, fun o x hx => ?_, fun o o' b h1 h2 => h.mem.heap.one _ _ _ (hide_owner h1).1 (hide_owner h2).1⟩, ⟨rfl, rfl, rfl, Nat.le_refl _, fun _ _ _ => rfl⟩, fun o b hb => .inr ⟨o, hb⟩, fun _ h => h, h.mem.bound, fun b hb => .inl hb, EnvLe.refl e, ⟨h.mem.gw, fun b ⟨o, hb⟩ => h.mem.gn (hide_owner hb).1⟩⟩⟩
  · show e.len = (hideH W 0 S.heap).length
    rw [hideH_length]; exact h.mem.heap.len
  · have hx : (hideH W 0 S.heap)[o]? = some x := hx
    rw [hideH_get] at hx
    cases hy : S.heap[o]? with
    | none => rw [hy] at hx; cases hx
    | some y =>
      rw [hy] at hx
      simp only [Option.map_some, Nat.zero_add, Option.some.injEq] at hx
      have := h.mem.heap.ob o y hy
      cases y with
      | var T cs =>
        simp only at hx
        cases hm : memB W o with
        | true => rw [hm] at hx; subst hx; exact this
        | false => rw [hm] at hx; subst hx; trivial
      | row el sz xs => subst hx; exact this
      | frz sz xs => subst hx; exact this
      | ext R => subst hx; exact this
      | gone => subst hx; exact this

theorem Sat.unhide (h : Sat C S a w F e) {W : List Nat} (k : Sat (Ctx.at w F e W S.heap) S' a' w' F' e') : Sat C (unhide W S S') a' w' F' e' ∧
    (∀ b, b < w.heap.size → ¬ (∃ o, Owner e (hideH W 0 S.heap) o b) → w'.heap[b]? = w.heap[b]?) ∧
    (∀ o b, Owner e' (hideH W 0 (unhide W S S').heap) o b → w.heap.size ≤ b ∨ ∃ o, Owner e (hideH W 0 S.heap) o b) := by
  have M := h.mem
  have K := k.mem
  have E : EnvLe e e' := K.env
  have hlen : S.heap.length ≤ S'.heap.length := by rw [← M.heap.len, ← K.heap.len]; exact E.len
  have hblk : ∀ b, b < w.heap.size → ¬ (∃ o, Owner e (hideH W 0 S.heap) o b) → w'.heap[b]? = w.heap[b]? := fun b hb hn => K.mod.block b hb hn
  have hget : ∀ (i : Nat), (Go.Ab.unhide W S S').heap[i]? = match S.heap[i]? with | some (.var T cs) => (match memB W i with | true => S'.heap[i]? | false => some (.var T cs)) | _ => S'.heap[i]? := by
    intro i
    have := showH_get W S.heap S'.heap 0 i hlen
    rw [Nat.zero_add] at this
    exact this
  have hsee : ∀ i, Seen W S.heap i → (Go.Ab.unhide W S S').heap[i]? = S'.heap[i]? := by
    intro i hs
    rw [hget]
    split
    · rename_i T cs hx; rw [hs T cs hx]
    · rfl
  have hhid : ∀ i, ¬ Seen W S.heap i → ∃ T cs, S.heap[i]? = some (.var T cs) ∧ memB W i = false ∧ (Go.Ab.unhide W S S').heap[i]? = some (.var T cs) := by
    intro i hs
    cases hx : S.heap[i]? with
    | none => exact absurd (fun T cs h => by rw [hx] at h; cases h) hs
    | some x =>
      cases x with
      | var T cs =>
        cases hm : memB W i with
        | true => exact absurd (fun T' cs' _ => hm) hs
        | false => exact ⟨T, cs, rfl, rfl, by rw [hget, hx]; simp only; rw [hm]⟩
      | _ => exact absurd (fun T cs h => by rw [hx] at h; cases h) hs
  have hownhid : ∀ i, ¬ Seen W S.heap i → ∀ b, Owner e' (Go.Ab.unhide W S S').heap i b → Owner e S.heap i b ∧ b = e.blk i := by
    intro i hs b hb
    obtain ⟨T, cs, h1, h2, h3⟩ := hhid i hs
    have hi : i < e.len := by rw [M.heap.len]; exact (List.getElem?_eq_some_iff.1 h1).1
    unfold Owner at hb ⊢
    rw [h3] at hb
    rw [h1]
    have hb : e'.blk i = b := hb
    rw [E.blk i hi] at hb
    exact ⟨hb, hb.symm⟩
  have hnotown : ∀ i b, ¬ Seen W S.heap i → Owner e S.heap i b → ¬ ∃ o, Owner e (hideH W 0 S.heap) o b := by
    rintro i b hs ho ⟨o, h2⟩
    obtain ⟨h3, h4⟩ := hide_owner h2
    have := M.heap.one _ _ _ ho h3
    subst this
    exact hs h4
  have hownsee : ∀ i b, Seen W S.heap i → Owner e' (Go.Ab.unhide W S S').heap i b → Owner e' S'.heap i b := by
    intro i b hs hb
    unfold Owner at hb ⊢
    rw [hsee i hs] at hb
    exact hb
  have hours : ∀ o b, Owner e' (Go.Ab.unhide W S S').heap o b → (w.heap.size ≤ b ∨ ∃ o, Owner e (hideH W 0 S.heap) o b) ∨ (¬ Seen W S.heap o ∧ Owner e S.heap o b) := by
    intro o b hb
    by_cases hs : Seen W S.heap o
    · exact .inl (K.ours o b (hownsee o b hs hb))
    · exact .inr ⟨hs, (hownhid o hs b hb).1⟩
  refine ⟨⟨k.defers, k.size, h.base, k.regs, ⟨⟨?_, fun o x hx => ?_, fun o1 o2 b h1 h2 => ?_⟩, ⟨K.mod.os.trans M.mod.os, K.mod.tape.trans M.mod.tape, K.mod.output.trans M.mod.output, Nat.le_trans M.mod.size K.mod.size, fun b hb hn => ?_⟩, fun o b hb => ?_, fun b hb => K.sub b (M.sub b hb), K.bound, fun b hb => ?_, M.env.trans E, M.g⟩⟩, hblk, fun o b hb => ?_⟩
  · show e'.len = (showH W 0 S.heap S'.heap).length
    rw [showH_length W _ _ _ hlen]; exact K.heap.len
  · by_cases hs : Seen W S.heap o
    · rw [hsee o hs] at hx; exact K.heap.ob o x hx
    · obtain ⟨T, cs, h1, h2, h3⟩ := hhid o hs
      rw [h3] at hx
      injection hx with hx
      subst hx
      have hi : o < e.len := by rw [M.heap.len]; exact (List.getElem?_eq_some_iff.1 h1).1
      obtain ⟨hF, vs, hb, hsz, hrep⟩ := M.heap.ob o _ h1
      have hown : Owner e S.heap o (e.blk o) := by unfold Owner; rw [h1]
      have hbl : e.blk o < w.heap.size := hown.lt M.heap
      have hno := hnotown o _ hs hown
      have L : Later w F w' F' := ⟨fun b hb => K.sub b hb, fun b hb => hblk b (M.bound b hb) (fun ⟨q, hq⟩ => Owner.notF M.heap (hide_owner hq).1 hb)⟩
      refine ⟨?_, vs, ?_, hsz, fun j s hj => (hrep j s hj).mono L E⟩
      · rw [E.blk o hi]
        intro hF'
        rcases K.fresh _ hF' with h4 | h4 | h4
        · exact hF h4
        · have h4 : w.heap.size ≤ e.blk o := h4
          omega
        · exact hno h4
      · rw [E.blk o hi, hblk _ hbl hno]; exact hb
  · by_cases s1 : Seen W S.heap o1 <;> by_cases s2 : Seen W S.heap o2
    · exact K.heap.one _ _ _ (hownsee _ _ s1 h1) (hownsee _ _ s2 h2)
    · obtain ⟨k2, _⟩ := hownhid o2 s2 b h2
      rcases K.ours _ _ (hownsee _ _ s1 h1) with h4 | h4
      · have h4 : w.heap.size ≤ b := h4
        have := k2.lt M.heap; omega
      · exact absurd h4 (hnotown o2 b s2 k2)
    · obtain ⟨k1, _⟩ := hownhid o1 s1 b h1
      rcases K.ours _ _ (hownsee _ _ s2 h2) with h4 | h4
      · have h4 : w.heap.size ≤ b := h4
        have := k1.lt M.heap; omega
      · exact absurd h4 (hnotown o1 b s1 k1)
    · exact M.heap.one _ _ _ (hownhid o1 s1 b h1).1 (hownhid o2 s2 b h2).1
  · rw [hblk b (Nat.lt_of_lt_of_le hb M.mod.size) (fun ⟨q, hq⟩ => ?_)]
    · exact M.mod.block b hb hn
    · rcases M.ours _ _ (hide_owner hq).1 with h4 | h4
      · omega
      · exact hn h4
  · rcases hours o b hb with (h4 | ⟨q, hq⟩) | ⟨_, h4⟩
    · exact .inl (Nat.le_trans M.mod.size h4)
    · exact M.ours _ _ (hide_owner hq).1
    · exact M.ours _ _ h4
  · rcases K.fresh b hb with h4 | h4 | ⟨q, hq⟩
    · exact M.fresh b h4
    · exact .inr (.inl (Nat.le_trans M.mod.size h4))
    · rcases M.ours _ _ (hide_owner hq).1 with h5 | h5
      · exact .inr (.inl h5)
      · exact .inr (.inr h5)
  · obtain ⟨h1, h2⟩ := hide_owner hb
    rcases hours o b h1 with h4 | ⟨h4, h5⟩
    · exact h4
    · obtain ⟨T, cs, h6, h7, h8⟩ := hhid o h4
      have := h2 T cs h8
      rw [h7] at this
      cases this

end
end Go.Ab

/- Whole pieces of code: the machine does what the abstract run says. -/
namespace Go.Ab
set_option linter.unusedVariables false
set_option linter.unusedSimpArgs false
section
variable {P : Program} {G : Gm} {C : Ctx} {fst : Bool} {S S' : St} {a a' : Act} {w w' w0 : World} {F F' F0 : Nat → Prop} {e e' e0 : Env} {W : List Nat} {H0 : List Ob}

/-- What may have changed of the old blocks: rows of ours, and variables that are named. -/
def Open (e0 : Env) (W : List Nat) (H0 : List Ob) : Nat → Prop := fun b => ∃ o, Owner e0 (hideH W 0 H0) o b

/-- Where a walk by a plan stands. -/
structure At (C : Ctx) (W : List Nat) (H0 : List Ob) (w0 : World) (F0 : Nat → Prop) (e0 : Env) (first : Bool) (S : St) (a : Act) (w : World) (F : Nat → Prop) (e : Env) : Prop where
  sat : Sat C S a w F e
  agree : Agree (Open e0 W H0) w0 w
  env : EnvLe e0 e
  vis : ∀ o b, Owner e (hideH W 0 S.heap) o b → b < w0.heap.size → Open e0 W H0 b
  start : HRep w0 F0 e0 H0
  bound : ∀ b, F0 b → b < w0.heap.size
  same : first = true → F = F0

theorem yields_kept (h : At C W H0 w0 F0 e0 fst S a w F e) (hG : TyOk P G.tys) {o : Oper} {k : AV → Prop} (ht : takeB fst W H0 S o.op = true) (hv : valOp G.tys S o.op k) :
    ∃ r x, k r ∧ Rep w F e r x ∧ ∀ w', Agree (Open e0 W H0) w0 w' → (execOp a.eval o).run P w' = .ok (.value x) w' := by
  have hs := h.sat
  have any : ∀ (X : Nat → Prop), XOk X F e S o.op → (∀ w', Agree (Open e0 W H0) w0 w' → Agree X w w') → ∃ r x, k r ∧ Rep w F e r x ∧ ∀ w', Agree (Open e0 W H0) w0 w' → (execOp a.eval o).run P w' = .ok (.value x) w' := by
    intro X hX hag
    obtain ⟨r, x, hK, hr, hy⟩ := valOp_sound (X := X) hG hs.here o _ hX hv
    exact ⟨r, x, hK, hr, fun w' hw => hy w' (hag w' hw)⟩
  by_cases hl : ∃ T A, o.op = .load T A
  · obtain ⟨T, A, hl⟩ := hl
    rw [hl] at ht
    simp only [takeB] at ht
    split at ht
    · rename_i ob off hA
      unfold stillB at ht
      split at ht
      case h_2 => cases ht
      rename_i T' cs hob
      have hm : memB W ob = false := by cases hm : memB W ob with | false => rfl | true => rw [hm] at ht; cases ht
      have hi : ob < e0.len := by rw [h.start.len]; exact (List.getElem?_eq_some_iff.1 hob).1
      have hb0 : e.blk ob = e0.blk ob := h.env.blk ob hi
      have hown : Owner e0 H0 ob (e0.blk ob) := by unfold Owner; rw [hob]
      have hnot : ¬ Open e0 W H0 (e0.blk ob) := by
        rintro ⟨q, hq⟩
        obtain ⟨h1, h2⟩ := hide_owner hq
        have := h.start.one _ _ _ hown h1
        subst this
        have := h2 T' cs hob
        rw [hm] at this; cases this
      refine any (fun b => b ≠ e.blk ob) ⟨fun T1 A1 cs1 h1 h2 => ?_, fun T1 A1 o1 off1 h1 h2 => ?_, fun T1 A1 o1 n sz i off1 h1 h2 => ?_, fun s1 d1 A1 h1 => by rw [hl] at h1; cases h1⟩ (fun w' hw b hb hn => ?_)
      · rw [hl] at h1; injection h1 with _ h1; subst h1; rw [hA] at h2; cases h2
      · rw [hl] at h1; injection h1 with _ h1; subst h1; rw [hA] at h2; injection h2 with h2 _; subst h2; exact fun hh => hh rfl
      · rw [hl] at h1; injection h1 with _ h1; subst h1; rw [hA] at h2; cases h2
      · have : b = e0.blk ob := by rw [← hb0]; exact Classical.not_not.1 hn
        subst this
        have hlt := hown.lt h.start
        rw [hw _ hlt hnot, h.agree _ hlt hnot]
    · rename_i cs hA
      have hF := h.same ht
      refine any (fun b => ¬ F0 b) ⟨fun T1 A1 cs1 h1 h2 b hb => ?_, fun T1 A1 o1 off1 h1 h2 => ?_, fun T1 A1 o1 n sz i off1 h1 h2 => ?_, fun s1 d1 A1 h1 => by rw [hl] at h1; cases h1⟩ (fun w' hw b hb hn => ?_)
      · rw [hF] at hb; exact fun hh => hh hb
      · rw [hl] at h1; injection h1 with _ h1; subst h1; rw [hA] at h2; cases h2
      · rw [hl] at h1; injection h1 with _ h1; subst h1; rw [hA] at h2; cases h2
      · have hF0 : F0 b := Classical.not_not.1 hn
        have hnot : ¬ Open e0 W H0 b := fun ⟨q, hq⟩ => Owner.notF h.start (hide_owner hq).1 hF0
        rw [hw _ (h.bound b hF0) hnot, h.agree _ (h.bound b hF0) hnot]
    · cases ht
  · refine any (fun _ => True) ⟨fun T1 A1 cs1 h1 => absurd ⟨T1, A1, h1⟩ hl, fun T1 A1 o1 off1 h1 => absurd ⟨T1, A1, h1⟩ hl, fun T1 A1 o1 n sz i off1 h1 => absurd ⟨T1, A1, h1⟩ hl, fun s1 d1 A1 h1 => .inl (by rw [h1] at ht; simp only [takeB] at ht; split at ht; exact ⟨_, by assumption⟩; cases ht)⟩ (fun w' hw b hb hn => absurd trivial hn)

theorem At.put (h : At C W H0 w0 F0 e0 fst S a w F e) {d : Option Nat} {r : AV} {x : Value} (hr : Rep w F e r x) (hd : S.okD d = true) : At C W H0 w0 F0 e0 fst (S.put d r) (a.put d x) w F e := by
  refine ⟨?_, h.agree, h.env, ?_, h.start, h.bound, h.same⟩
  · have := h.sat.next (Later.refl w F) (EnvLe.refl e) h.sat.mem hr hd
    exact this
  · have : (S.put d r).heap = S.heap := by cases d <;> rfl
    rw [this]; exact h.vis
theorem At.swap (h : At C W H0 w0 F0 e0 fst S a w F e) {S1 : St} (hs : Sat C S1 a w F e) (hh : S1.heap = S.heap) : At C W H0 w0 F0 e0 fst S1 a w F e :=
  ⟨hs, h.agree, h.env, by rw [hh]; exact h.vis, h.start, h.bound, h.same⟩

/-- The guard's states differ from the one at hand in one register alone. -/
theorem guard_sound' {all : List Oper} (h : Sat C S a w F e) (o : Oper) {yes no : St → Prop} (hg : guardS S all o.guard yes no) :
    (Region.wanted o (yielded all.toArray a.tmps) = true ∧ ∃ S', yes S' ∧ Sat C S' a w F e ∧ S'.heap = S.heap) ∨ (Region.wanted o (yielded all.toArray a.tmps) = false ∧ ∃ S', no S' ∧ Sat C S' a w F e ∧ S'.heap = S.heap) := by
  have := guard_sound (all := all) h o (yes := fun S' => yes S' ∧ S'.heap = S.heap) (no := fun S' => no S' ∧ S'.heap = S.heap) ?_
  · rcases this with ⟨h1, S', ⟨h2, h3⟩, h4⟩ | ⟨h1, S', ⟨h2, h3⟩, h4⟩
    · exact .inl ⟨h1, S', h2, h4, h3⟩
    · exact .inr ⟨h1, S', h2, h4, h3⟩
  · unfold guardS at hg ⊢
    split at hg
    · exact ⟨hg, rfl⟩
    · split at hg
      case h_2 => exact hg.elim
      split at hg
      case h_2 => exact hg.elim
      split at hg
      case h_3 => exact hg.elim
      case h_2 => exact ⟨hg, rfl⟩
      rename_i b hb
      split at hg <;> simp only [CondP] at hg ⊢ <;> cases b <;> exact ⟨hg, rfl⟩

theorem mem_alts_none {ops : Array Oper} {n : Nat} {q : Plan} {f : Nat} {had : Array Bool} (h : planB ops n q f had false = true) : (∃ i p r, q = .alt i p r) ∨ q = .nil := by
  cases q with
  | fin => simp [planB] at h
  | take i p => simp [planB] at h
  | alt i p r => exact .inl ⟨i, p, r, rfl⟩
  | nil => exact .inr rfl

theorem plan_sound (hG : TyOk P G.tys) {all : List Oper} {n : Nat} {K : St → Prop} {R : Act → World → Prop} (hsel : Region.noSelect all.toArray = true) (hh : HeadOnly all.toArray n) :
    ∀ (pl : Plan) (f : Nat) (had : Array Bool) (fst top : Bool) (S : St) (a : Act) (w : World) (F : Nat → Prop) (e : Env), At C W H0 w0 F0 e0 fst S a w F e → HeadInv .any all.toArray n had → planB all.toArray n pl f had top = true → runPlan P G all W H0 pl fst S K →
      (top = true → Mix P all.toArray (Calm R) (Agree (Open e0 W H0) w0) n (fun a w => ∃ S F e, K S ∧ Sat C S a w F e) f had a w) ∧
      (top = false → ∀ i ∈ pl.alts, i ∈ Region.ready .any all.toArray had → i < n ∧ ∃ f', f = f' + 1 ∧ wpOp P all.toArray (Calm R) i (fun a' w' => Agree (Open e0 W H0) w0 w' ∧ Mix P all.toArray (Calm R) (Agree (Open e0 W H0) w0) n (fun a w => ∃ S F e, K S ∧ Sat C S a w F e) f' (had.setIfInBounds i true) a' w') a w) := by
  intro pl
  induction pl with
  | fin =>
    intro f had fst top S a w F e h inv hB hr
    simp only [planB, Bool.and_eq_true] at hB
    refine ⟨fun _ => ?_, fun ht => by rw [ht] at hB; simp at hB⟩
    obtain ⟨⟨_, hf⟩, hs⟩ := hB
    have hf0 : f = 0 := Nat.eq_of_beq_eq_true hf
    subst hf0
    exact ⟨hs, S, F, e, hr, h.sat⟩
  | take i p ih =>
    intro f had fst top S a w F e h inv hB hr
    refine ⟨fun ht => ?_, fun ht => by rw [ht] at hB; simp [planB] at hB⟩
    subst ht
    cases f with
    | zero => simp [planB] at hB
    | succ f =>
      simp only [planB, Bool.and_eq_true, Bool.true_and] at hB
      obtain ⟨⟨⟨hlt, hrd⟩, hfree⟩, hB⟩ := hB
      have hin : i < n := by simpa [Nat.blt_eq] using hlt
      have hrd' : i ∈ Region.ready .any all.toArray had := by simpa using hrd
      rw [runPlan_take] at hr
      obtain ⟨_, o, hoi, _⟩ := mem_ready.1 hrd'
      have hoi' : all[i]? = some o := by simpa using hoi
      rw [hoi'] at hr
      simp only [putS_eq, hookR_eq] at hr
      have hinv := inv.set hrd' hin
      rcases guard_sound' h.sat o hr with ⟨hw, S', hy, hS, hheap⟩ | ⟨hw, S', hdn, hS, hheap⟩
      · have hA := h.swap hS hheap
        obtain ⟨hd, hy⟩ := hy.elim
        obtain ⟨htk, hy⟩ := hy.elim
        obtain ⟨r, x, hk, hrep, hex⟩ := yields_kept hA hG htk hy
        refine mix_take hoi hsel hh hin Calm.noPanic f had a w inv (Region.free_spec hoi hfree) hrd' (.inl ⟨hw, hex⟩) hA.agree ?_
        exact (ih f _ fst true _ _ w F e (hA.put hrep hd) hinv hB hk).1 rfl
      · have hA := h.swap hS hheap
        obtain ⟨hd, hn⟩ := hdn.elim
        refine mix_take hoi hsel hh hin Calm.noPanic f had a w inv (Region.free_spec hoi hfree) hrd' (v := undef) (.inr ⟨hw, rfl⟩) hA.agree ?_
        exact (ih f _ fst true _ _ w F e (hA.put .v hd) hinv hB hn).1 rfl
  | alt i p q ihp ihq =>
    intro f had fst top S a w F e h inv hB hr
    have hB0 := hB
    simp only [planB, Bool.and_eq_true] at hB
    obtain ⟨⟨htop, hBp⟩, hBq⟩ := hB
    rw [runPlan_alt] at hr
    cases f with
    | zero => simp at hBp
    | succ f =>
      simp only [Bool.and_eq_true] at hBp
      obtain ⟨hlt, hBp⟩ := hBp
      have hin : i < n := by simpa [Nat.blt_eq] using hlt
      have each : ∀ j ∈ (Plan.alt i p q).alts, j ∈ Region.ready .any all.toArray had → j < n ∧ ∃ f', f + 1 = f' + 1 ∧ wpOp P all.toArray (Calm R) j (fun a' w' => Agree (Open e0 W H0) w0 w' ∧ Mix P all.toArray (Calm R) (Agree (Open e0 W H0) w0) n (fun a w => ∃ S F e, K S ∧ Sat C S a w F e) f' (had.setIfInBounds j true) a' w') a w := by
        intro j hj hjr
        simp only [Plan.alts, List.mem_cons] at hj
        by_cases hji : j = i
        · subst hji
          refine ⟨hin, f, rfl, ?_⟩
          obtain ⟨_, o, hoi, _⟩ := mem_ready.1 hjr
          have hoi' : all[j]? = some o := by simpa using hoi
          have hr1 := hr.l
          rw [hoi'] at hr1
          simp only [putS_eq, hideF_eq, unhideF_eq, step2_eq] at hr1
          have hinv := inv.set hjr hin
          unfold wpOp
          simp only [hoi]
          rcases guard_sound' h.sat o hr1 with ⟨hw, S', hy, hS, hheap⟩ | ⟨hw, S', hdn, hS, hheap⟩
          · have hA := h.swap hS hheap
            simp only [hw, if_true]
            left
            have hg := step_sound (C := Ctx.at w F e W S'.heap) hG (hS.hide W) o _ (Calm R) hy
            refine Oper.wp_mono ?_ hg
            rintro a' w' ⟨S2, F2, e2, hk, hs2⟩
            obtain ⟨hsat, hblk, hvis⟩ := hS.unhide hs2
            have hag : Agree (Open e0 W H0) w0 w' := by
              intro b hb hn
              have hbw : b < w.heap.size := by
                have := h.agree b hb hn
                rcases Nat.lt_or_ge b w.heap.size with hlt | hge
                · exact hlt
                · rw [Array.getElem?_eq_none hge, Array.getElem?_eq_getElem hb] at this; cases this
              rw [hblk b hbw (fun ⟨q, hq⟩ => hn (hA.vis q b hq hb))]
              exact h.agree b hb hn
            refine ⟨hag, (ihp f _ false true _ _ w' F2 e2 ⟨hsat, hag, h.env.trans hs2.mem.env, fun o b hb hlt => ?_, h.start, h.bound, fun hf => by cases hf⟩ hinv hBp hk).1 rfl⟩
            rcases hvis o b hb with h4 | ⟨q, hq⟩
            · by_cases hn : Open e0 W H0 b
              · exact hn
              · have := h.agree b hlt hn
                rw [Array.getElem?_eq_none h4, Array.getElem?_eq_getElem hlt] at this; cases this
            · exact hA.vis q b hq hlt
          · have hA := h.swap hS hheap
            simp only [hw, Bool.false_eq_true, if_false]
            obtain ⟨hd, hn⟩ := hdn.elim
            have hA2 := hA.put (x := undef) .v hd
            refine ⟨hA.agree, (ihp f _ false true _ _ w F e ⟨hA2.sat, hA2.agree, hA2.env, hA2.vis, hA2.start, hA2.bound, fun hf => by cases hf⟩ hinv hBp hn).1 rfl⟩
        · have hjq : j ∈ q.alts := hj.resolve_left hji
          exact (ihq (f + 1) had fst false S a w F e h inv hBq hr.r).2 rfl j hjq hjr
      refine ⟨fun ht => ?_, fun _ => each⟩
      subst ht
      simp only [Bool.not_true, Bool.false_or, beq_iff_eq] at htop
      refine ⟨by rw [htop]; simp [Plan.alts], fun j hj => ?_⟩
      obtain ⟨h1, f', h2, h3⟩ := each j (by rw [← htop]; exact hj) hj
      have : f = f' := by omega
      subst this
      exact ⟨h1, h3⟩
  | nil =>
    intro f had fst top S a w F e h inv hB hr
    refine ⟨fun ht => by rw [ht] at hB; simp [planB] at hB, fun _ i hi => by simp [Plan.alts] at hi⟩

/-- What stands behind a piece of code. -/
def Post (C : Ctx) (Q : Exit → St → Prop) : Exit → Act → World → Prop := fun x a' w' => ∃ S' F' e', Q x S' ∧ Sat C S' a' w' F' e'

theorem Draw.sound (hG : TyOk P G.tys) (hm : P.follows .mixedOrders = true) (h : Sat C S a w F e) {id : Nat} {ops : Array Oper} {Q : Exit → St → Prop} (hr : Draw P G ops S (Q .normal)) : (Code.region id ops true).wp P (Post C Q) a w := by
  obtain ⟨n, pl, W, M, hB, hrun, hM⟩ := hr.out
  simp only [drawB, Bool.and_eq_true] at hB
  obtain ⟨⟨hsel, hhead⟩, hplan⟩ := hB
  have hn : n ≤ ops.size := by
    simp only [Bool.or_eq_true, Bool.and_eq_true, decide_eq_true_eq] at hhead
    omega
  have hw := h.calm (touch_drew w)
  let w1 : World := { w with drawn := w.drawn + 1 }
  have inv0 : HeadInv .any ops n (Array.replicate ops.size false) :=
    ⟨by simp, fun j oj _ hl => (by rw [getD_replicate_false] at hl; cases hl), fun t _ ht => getD_in (by simpa using ht) (getD_replicate_false _ _)⟩
  have e1 : ops.toList.toArray = ops := by simp
  have hat : At C W S.heap w1 F e true S a w1 F e :=
    ⟨hw, Agree.refl _, EnvLe.refl e, fun o b hb _ => ⟨o, hb⟩, hw.mem.heap, hw.mem.bound, fun _ => rfl⟩
  have key := (plan_sound (R := fun a' w' => Post C Q .normal a' w') hG (all := ops.toList) (n := n) (K := M) (by rw [e1]; exact hsel) (by rw [e1]; exact headOnly_of hhead) pl n _ true true S a w1 F e hat (by rw [e1]; exact inv0) (by rw [e1]; exact hplan) hrun).1 rfl
  rw [e1] at key
  have hdl : (ops.toList.drop n).length = ops.size - n := by simp
  refine wp_mono (Q := Calm fun a' w' => Post C Q .normal a' w') (wp_region_any hm ?_) (fun x a' w' hx => by rw [hx.1]; exact hx.2)
  have := mix_any (fun had a' w' hs hL => ?_) n _ a w1 key
  · rw [show n + (ops.size - n) = ops.size by omega] at this
    exact this
  · obtain ⟨S', F', e', hk, hsat⟩ := hL
    obtain ⟨S'', hwk, hops⟩ := hM S' hk
    obtain ⟨F2, e2, hs2⟩ := hwk.out C a' w' F' e' hsat
    have := wpAny_of_seq (md := .any) (P := P) (ops := ops) (Q' := Calm fun a' w' => Post C Q .normal a' w') (ops.toList.drop n) n had a' w' (fun j => by simp [List.getElem?_drop]) (by rw [hdl]; exact hs) ?_
    · rwa [hdl] at this
    · have := runOps_sound hG ops.toList (Q .normal) (Calm fun a' w' => Post C Q .normal a' w') (fun S2 a2 w2 F2 e2 hk2 hs2 => ⟨rfl, S2, F2, e2, hk2, hs2⟩) (ops.toList.drop n) S'' a' w' F2 e2 hs2 hops
      rwa [e1] at this

theorem run_sound (hG : TyOk P G.tys) (hm : P.follows .mixedOrders = true) : ∀ (c : Code) (S : St) (Q : Exit → St → Prop) (a : Act) (w : World) (F : Nat → Prop) (e : Env), Sat C S a w F e → run P G c S Q → c.wp P (Post C Q) a w
  | .skip, S, Q, a, w, F, e, h, hr => wp_skip ⟨S, F, e, hr, h⟩
  | .region _ ops false, S, Q, a, w, F, e, h, hr => by
    refine wp_region_list ?_
    have := runOps_sound hG ops.toList (Q .normal) (Post C Q) (fun S2 a2 w2 F2 e2 hk2 hs2 => ⟨S2, F2, e2, hk2, hs2⟩) ops.toList S a w F e h hr
    simpa using this
  | .region _ ops true, S, Q, a, w, F, e, h, hr => Draw.sound hG hm h hr
  | .seq x y, S, Q, a, w, F, e, h, hr => by
    refine wp_seq (wp_mono (run_sound hG hm x S _ a w F e h hr) ?_)
    rintro ex a' w' ⟨S', F', e', hq, hs⟩
    cases ex with
    | normal => exact run_sound hG hm y S' Q a' w' F' e' hs hq
    | _ => exact ⟨S', F', e', hq, hs⟩
  | .cond c x y, S, Q, a, w, F, e, h, hr => by
    rw [run_cond] at hr
    split at hr
    case h_2 => exact hr.elim
    rename_i b hb
    have hc := h.here.ev c
    rw [hb] at hc
    have hc := hc.v_inv
    have href : ∀ t, b = t → Sat C (refineC S c t) a w F e := by
      intro t ht
      unfold refineC
      split
      · exact h.refine hb ht
      · exact h
    cases b
    · exact wp_cond_false hc (run_sound hG hm y _ Q a w F e (href false rfl) hr)
    · exact wp_cond_true hc (run_sound hG hm x _ Q a w F e (href true rfl) hr)
  | .block id c, S, Q, a, w, F, e, h, hr => by
    refine wp_block (wp_mono (run_sound hG hm c S _ a w F e h hr) ?_)
    rintro ex a' w' ⟨S', F', e', hq, hs⟩
    cases ex with
    | exit i =>
      simp only [blockK] at hq
      unfold Exit.inBlock
      split at hq
      · rename_i hi
        have := Nat.eq_of_beq_eq_true hi
        simp only [this, if_true]
        exact ⟨S', F', e', hq, hs⟩
      · rename_i hi
        have : i ≠ id := fun hh => by subst hh; simp at hi
        simp only [this, if_false]
        exact ⟨S', F', e', hq, hs⟩
    | _ => exact ⟨S', F', e', hq, hs⟩
  | .loop c, S, Q, a, w, F, e, h, hr => False.elim hr
  | .exit id, S, Q, a, w, F, e, h, hr => wp_exit ⟨S, F, e, hr, h⟩
  | .scope c, S, Q, a, w, F, e, h, hr => by
    refine wp_scope_straight (wp_mono (run_sound hG hm c S _ a w F e h hr) ?_)
    rintro ex a' w' ⟨S', F', e', hq, hs⟩
    cases ex with
    | goto l => exact hq.elim
    | _ => exact ⟨S', F', e', hq, hs⟩
  | .label _, S, Q, a, w, F, e, h, hr => wp_label ⟨S, F, e, hr, h⟩
  | .ret, S, Q, a, w, F, e, h, hr => wp_ret ⟨S, F, e, hr, h⟩
  | .rangeFunc .., S, Q, a, w, F, e, h, hr => False.elim hr
  | .goto _, S, Q, a, w, F, e, h, hr => False.elim hr
  | .refuse _, S, Q, a, w, F, e, h, hr => False.elim hr

/-! ### Pieces of code, by what they come to -/
/-- From state S on, the piece of code c comes to an end that Q lets in. -/
structure Tri (P : Program) (c : Code) (S : St) (Q : Exit → St → Prop) : Prop where
  out : ∀ (C : Ctx) (a : Act) (w : World) (F : Nat → Prop) (e : Env), Sat C S a w F e → c.wp P (Post C Q) a w

theorem Tri.run (hG : TyOk P G.tys) (hm : P.follows .mixedOrders = true) {c : Code} {Q : Exit → St → Prop} (h : Go.Ab.run P G c S Q) : Tri P c S Q :=
  ⟨fun C a w F e hs => run_sound hG hm c S Q a w F e hs h⟩
theorem Tri.mono {c : Code} {Q Q' : Exit → St → Prop} (h : Tri P c S Q) (hq : ∀ x S', Q x S' → Q' x S') : Tri P c S Q' :=
  ⟨fun C a w F e hs => wp_mono (h.out C a w F e hs) (by rintro x a' w' ⟨S', F', e', h1, h2⟩; exact ⟨S', F', e', hq _ _ h1, h2⟩)⟩
theorem Tri.weak {c : Code} {Q : Exit → St → Prop} (hw : Weak S S') (h : Tri P c S' Q) : Tri P c S Q :=
  ⟨fun C a w F e hs => let ⟨F', e', hs'⟩ := hw.out C a w F e hs; h.out C a w F' e' hs'⟩
theorem Tri.seq {x y : Code} {Q : Exit → St → Prop} (I : Exit → St → Prop) (h : Tri P x S I) (hy : ∀ S', I .normal S' → Tri P y S' Q) (hx : ∀ ex S', ex ≠ .normal → I ex S' → Q ex S') : Tri P (.seq x y) S Q := by
  refine ⟨fun C a w F e hs => wp_seq (wp_mono (h.out C a w F e hs) ?_)⟩
  rintro ex a' w' ⟨S', F', e', hq, hs'⟩
  cases ex with
  | normal => exact (hy S' hq).out C a' w' F' e' hs'
  | _ => exact ⟨S', F', e', hx _ S' (by simp) hq, hs'⟩
theorem Tri.seqK {x y : Code} {Q : Exit → St → Prop} (h : Tri P x S fun ex S' => match ex with | .normal => Tri P y S' Q | ex => Q ex S') : Tri P (.seq x y) S Q := by
  refine ⟨fun C a w F e hs => wp_seq (wp_mono (h.out C a w F e hs) ?_)⟩
  rintro ex a' w' ⟨S', F', e', hq, hs'⟩
  cases ex with
  | normal => exact hq.out C a' w' F' e' hs'
  | _ => exact ⟨S', F', e', hq, hs'⟩
theorem Tri.cond {c : Operand} {x y : Code} {Q : Exit → St → Prop} {b : Bool} (hb : S.ev c = .v (.bool b)) (h1 : b = true → Tri P x (refineC S c true) Q) (h2 : b = false → Tri P y (refineC S c false) Q) : Tri P (.cond c x y) S Q := by
  refine ⟨fun C a w F e h => ?_⟩
  have hc := h.here.ev c
  rw [hb] at hc
  have hc := hc.v_inv
  have href : ∀ t, b = t → Sat C (refineC S c t) a w F e := by
    intro t ht
    unfold refineC
    split
    · exact h.refine hb ht
    · exact h
  cases b
  · exact wp_cond_false hc ((h2 rfl).out C a w F e (href false rfl))
  · exact wp_cond_true hc ((h1 rfl).out C a w F e (href true rfl))
theorem Tri.block {id : Nat} {c : Code} {Q : Exit → St → Prop} (h : Tri P c S (blockK id Q)) : Tri P (.block id c) S Q := by
  refine ⟨fun C a w F e hs => wp_block (wp_mono (h.out C a w F e hs) ?_)⟩
  rintro ex a' w' ⟨S', F', e', hq, hs⟩
  cases ex with
  | exit i =>
    simp only [blockK] at hq
    unfold Exit.inBlock
    split at hq
    · rename_i hi
      have := Nat.eq_of_beq_eq_true hi
      simp only [this, if_true]
      exact ⟨S', F', e', hq, hs⟩
    · rename_i hi
      have : i ≠ id := fun hh => by subst hh; simp at hi
      simp only [this, if_false]
      exact ⟨S', F', e', hq, hs⟩
  | _ => exact ⟨S', F', e', hq, hs⟩
theorem Tri.scope {c : Code} {Q : Exit → St → Prop} (h : Tri P c S (scopeK Q)) : Tri P (.scope c) S Q := by
  refine ⟨fun C a w F e hs => wp_scope_straight (wp_mono (h.out C a w F e hs) ?_)⟩
  rintro ex a' w' ⟨S', F', e', hq, hs⟩
  cases ex with
  | goto l => exact hq.elim
  | _ => exact ⟨S', F', e', hq, hs⟩
/-- A loop, by a relation with a count. -/
theorem Tri.loop {c : Code} {Q : Exit → St → Prop} (I : Nat → St → Prop) (n0 : Nat) (S0 : St) (h0 : Weak S S0) (i0 : I n0 S0)
    (round : ∀ n S1, I n S1 → Tri P c S1 fun x S2 => match x with | .normal => ∃ S3 n', Weak S2 S3 ∧ I n' S3 ∧ n' < n | x => Q x S2) : Tri P (.loop c) S Q := by
  refine ⟨fun C a w F e h => ?_⟩
  obtain ⟨F0, e0, h0⟩ := h0.out C a w F e h
  refine wp_loop_ghost (fun n a w => ∃ S F e, I n S ∧ Sat C S a w F e) n0 ⟨S0, F0, e0, i0, h0⟩ ?_
  rintro n a' w' ⟨S1, F1, e1, hI, hs⟩
  refine wp_mono ((round n S1 hI).out C a' w' F1 e1 hs) ?_
  rintro ex a2 w2 ⟨S2, F2, e2, hq, hs2⟩
  cases ex with
  | normal =>
    obtain ⟨S3, n', hw3, hI3, hlt⟩ := hq
    obtain ⟨F3, e3, hs3⟩ := hw3.out C a2 w2 F2 e2 hs2
    exact ⟨n', hlt, S3, F3, e3, hI3, hs3⟩
  | _ => exact ⟨S2, F2, e2, hq, hs2⟩

end
end Go.Ab

/- Functions: a contract out of a run of the body. -/
namespace Go.Ab
set_option linter.unusedVariables false
set_option linter.unusedSimpArgs false

def initRegs (args : List AV) : Nat → AV := fun t => (args[t]?).getD .dead

def resList (G : Gm) (S : St) : List ResultVar → (List AV → Prop) → Prop
  | [], k => k []
  | .tmp t :: r, k => resList G S r fun vs => k (S.regs t :: vs)
  | .cell t T :: r, k => (match ty G.tys T with | some ti => loadV S ti (S.regs t) fun x => resList G S r fun vs => k (x :: vs) | none => False)

def resS (G : Gm) (S : St) (rs : List ResultVar) (k : AV → Prop) : Prop :=
  resList G S rs fun vs => match vs with | [x] => k x | vs => k (.tup vs)

def purR (H : List Ob) (r : AV) (k : AV → Prop) : Prop :=
  match r with
  | .tup vs => purAs H vs fun vs => k (.tup vs)
  | r => purA H r k

def finP (G : Gm) (rs : List ResultVar) (K : AV → Prop) (x : Exit) (S : St) : Prop :=
  match x with
  | .normal => resS G S rs fun r => purR S.heap r K
  | .ret => resS G S rs fun r => purR S.heap r K
  | _ => False

def finC (G : Gm) (rs : List ResultVar) (K : AV → List Ob → Prop) (x : Exit) (S : St) : Prop :=
  match x with
  | .normal => resS G S rs fun r => K r S.heap
  | .ret => resS G S rs fun r => K r S.heap
  | _ => False

section
variable {P : Program} {G : Gm} {C : Ctx} {S : St} {a : Act} {w w' : World} {F F' : Nat → Prop} {e e' : Env}

theorem loadV_var (hG : TyOk P G.tys) (H : Here S a w F e) {T : TypeId} {ti : TI} (ht : ty G.tys T = some ti) {t : Nat} {q : AV → Prop} (h : loadV S ti (S.regs t) q) :
    ∃ r x, q r ∧ Rep w F e r x ∧ (do loadVar T (← asAddr (a.tmps.getD t undef)) : Sem Value).run P w = .ok x w := by
  let o : Oper := { dst := none, op := .load T (.tmp t), type := 0, pos := "", after := #[], guard := none }
  obtain ⟨r, x, hq, hr, hy⟩ := loadV_sound (X := fun _ => False) (A := .tmp t) (o := o) hG H ht rfl XOk.none h
  refine ⟨r, x, hq, hr, ?_⟩
  have := hy w (Agree.refl w)
  simp only [execOp, o, Sem.run_bind, Instr.loadAt] at this
  have e1 : a.eval (.tmp t) = a.tmps.getD t undef := rfl
  rw [e1] at this
  generalize a.tmps.getD t undef = X at *
  cases X with
  | pointer p =>
    cases p with
    | none => simp [Instr.sureAddr, Result.andThen] at this
    | some ad =>
      simp only [Instr.sureAddr, asAddr, Sem.run_bind, Sem.run_pure, Result.andThen_ok] at this ⊢
      cases hl : (loadVar T ad).run P w with
      | ok y w2 =>
        rw [hl] at this
        simp at this
        rw [this.1, this.2]
      | halt z w2 => rw [hl] at this; simp at this
  | _ => simp [Instr.sureAddr, Result.andThen] at this

theorem resList_sound (hG : TyOk P G.tys) (H : Here S a w F e) : ∀ (rs : List ResultVar) {k : List AV → Prop}, resList G S rs k →
    ∃ vs xs, k vs ∧ RepCells w F e vs xs.toArray ∧ (rs.mapM (fun r => match r with | .tmp t => pure (a.tmps.getD t undef) | .cell x t => do loadVar t (← asAddr (a.tmps.getD x undef))) : Sem (List Value)).run P w = .ok xs w
  | [], k, h => ⟨[], [], h, ⟨rfl, fun j s hj => by simp at hj⟩, by simp⟩
  | .tmp t :: r, k, h => by
    simp only [resList] at h
    obtain ⟨vs, xs, hk, hr, hrun⟩ := resList_sound hG H r h
    refine ⟨S.regs t :: vs, a.tmps.getD t undef :: xs, hk, ⟨by have := hr.1; simp at this ⊢; omega, fun j s hj => ?_⟩, ?_⟩
    · cases j with
      | zero => simp at hj; subst hj; exact H.regs t
      | succ j => simpa using hr.2 j s (by simpa using hj)
    · simp only [List.mapM_cons, Sem.run_bind, Sem.run_pure, Result.andThen_ok, hrun]
  | .cell t T :: r, k, h => by
    simp only [resList] at h
    split at h
    case h_2 => exact h.elim
    rename_i ti ht
    obtain ⟨x, y, hk, hx, hload⟩ := loadV_var hG H ht h
    obtain ⟨vs, xs, hk, hr, hrun⟩ := resList_sound hG H r hk
    refine ⟨x :: vs, y :: xs, hk, ⟨by have := hr.1; simp at this ⊢; omega, fun j s hj => ?_⟩, ?_⟩
    · cases j with
      | zero => simp at hj; subst hj; exact hx
      | succ j => simpa using hr.2 j s (by simpa using hj)
    · simp only [List.mapM_cons]
      rw [Sem.run_bind, hload]
      simp only [Sem.run_bind, Sem.run_pure, Result.andThen_ok, hrun]

theorem resS_sound (hG : TyOk P G.tys) (H : Here S a w F e) (fn : Func) {k : AV → Prop} (h : resS G S fn.results.toList k) : ∃ r x, k r ∧ Rep w F e r x ∧ (results fn a.tmps).run P w = .ok x w := by
  obtain ⟨vs, xs, hk, hr, hrun⟩ := resList_sound hG H _ h
  have hm : (fn.results.mapM (fun r => match r with | .tmp t => pure (a.tmps.getD t undef) | .cell x t => do loadVar t (← asAddr (a.tmps.getD x undef))) : Sem (Array Value)).run P w = .ok xs.toArray w := by
    rw [Array.mapM_eq_mapM_toList, Sem.run_map, hrun]
    rfl
  have hres : (results fn a.tmps).run P w = .ok (if h : xs.toArray.size = 1 then xs.toArray[0] else .tuple xs.toArray) w := by
    unfold results
    rw [Sem.run_bind]
    refine Eq.trans (congrArg (fun z => Result.andThen z _) (?_ : _ = Result.ok xs.toArray w)) rfl
    rw [← hm]
    congr 2
  rw [hres]
  split at hk
  · rename_i x
    obtain ⟨h1, h2⟩ := hr
    have hl : xs.length = 1 := by simpa using h1
    obtain ⟨y, rfl⟩ := List.length_eq_one_iff.1 hl
    exact ⟨x, y, hk, by simpa using h2 0 x rfl, by simp⟩
  · rename_i hne
    refine ⟨.tup vs, .tuple xs.toArray, hk, .tup hr.1 hr.2, ?_⟩
    have : ¬ xs.toArray.size = 1 := by
      intro h1
      rw [hr.1] at h1
      obtain ⟨y, rfl⟩ := List.length_eq_one_iff.1 h1
      exact hne y rfl
    rw [dif_neg this]

theorem init_sat {H : List Ob} (M : Mem C H w F e) (hb : C.e0.len = H.length) {args : List AV} {vs : Array Value} (hr : RepCells w F e args vs) {n : Nat} (hn : args.length ≤ n) :
    Sat C ⟨n, H.length, initRegs args, H⟩ { tmps := vs ++ Array.replicate (n - vs.size) undef, defers := [] } w F e := by
  refine ⟨rfl, by have := hr.1; simp; omega, hb, fun t => ?_, M⟩
  simp only [initRegs]
  rw [Array.getD_eq_getD_getElem?, Array.getElem?_append]
  cases ht : args[t]? with
  | none => exact .dead
  | some s =>
    have hlt := (List.getElem?_eq_some_iff.1 ht).1
    rw [if_pos (by rw [hr.1]; exact hlt), ← Array.getD_eq_getD_getElem?]
    exact hr.2 t s ht

theorem callable_of {g : FuncId} {fn : Func} {c : Code} (hf : P.funcs[g]? = some fn) (hb : fn.body = some c) (hn : (fn.name == "runtime.NumGoroutine") = false) : Callable P g := ⟨fn, hf, hn, by rw [hb]; rfl⟩

theorem pure_of (hG : TyOk P G.tys) {g : FuncId} {fn : Func} {c : Code} (hf : P.funcs[g]? = some fn) (hb : fn.body = some c) (hn : (fn.name == "runtime.NumGoroutine") = false)
    {args : List AV} {K : AV → Prop} (hl : args.length ≤ fn.ntmps) (h : Tri P c ⟨fn.ntmps, 0, initRegs args, []⟩ (finP G fn.results.toList K)) : PureP P g args K := by
  refine ⟨callable_of hf hb hn, fun w F vs hgw hbd hr => calls_of_wp hf hb ?_⟩
  let C : Ctx := ⟨w, fun _ => False, Env.nil, F⟩
  have M : Mem C [] w F Env.nil := ⟨⟨rfl, fun o b ho => by simp at ho, fun o o' b ho => by unfold Owner at ho; simp at ho⟩, ⟨rfl, rfl, rfl, Nat.le_refl _, fun _ _ _ => rfl⟩, fun o b ho => by unfold Owner at ho; simp at ho, fun b hb => hb, hbd, fun b hb => .inl hb, EnvLe.refl _, ⟨hgw, fun b h => h.elim⟩⟩
  have hS := init_sat (C := C) M rfl hr hl
  refine wp_mono (h.out C _ w F Env.nil hS) ?_
  rintro ex a' w' ⟨S', F', e', hq, hs⟩
  have fin : resS G S' fn.results.toList (fun r => purR S'.heap r K) → a'.defers = [] ∧ ∃ v, (results fn a'.tmps).run P w' = .ok v w' ∧ (∃ r x F'', Ending.returned v = .returned x ∧ K r ∧ Rep w' F'' Env.nil r x ∧ (∀ b, F b → F'' b) ∧ (∀ b, F'' b → F b ∨ w.heap.size ≤ b) ∧ (∀ b, F'' b → b < w'.heap.size) ∧ Touch w w' (fun _ => False)) := by
    intro hres
    obtain ⟨r, x, hk, hrep, hrun⟩ := resS_sound hG hs.here fn hres
    refine ⟨hs.defers, x, hrun, ?_⟩
    have key : ∃ r' F'' H'', K r' ∧ Mem C H'' w' F'' e' ∧ Rep w' F'' Env.nil r' x := by
      unfold purR at hk
      split at hk
      · rename_i us
        obtain ⟨xs, rfl, h1, h2⟩ := hrep.tup_inv
        obtain ⟨us', F1, hk, L, M1, l1, r1⟩ := purAs_sound us (Froze.refl _) hs.mem (fun j => xs.getD j undef) h2 hk
        exact ⟨_, F1, _, hk, M1, .tup (by rw [l1]; exact h1) r1⟩
      · obtain ⟨r', F1, hk, L, M1, r1⟩ := purA_sound (Froze.refl _) hs.mem hrep hk
        exact ⟨r', F1, _, hk, M1, r1⟩
    obtain ⟨r', F'', H'', hk', M', hr'⟩ := key
    refine ⟨r', x, F'', rfl, hk', hr', M'.sub, fun b hb => ?_, M'.bound, ⟨M'.mod.os, M'.mod.tape, M'.mod.output, M'.mod.size, fun b hb _ => M'.mod.block b hb (fun h => h)⟩⟩
    rcases M'.fresh b hb with h | h | h
    · exact .inl h
    · exact .inr h
    · exact h.elim
  cases ex with
  | normal => exact fin hq
  | ret => exact fin hq
  | _ => exact hq.elim

theorem call_of (hG : TyOk P G.tys) {g : FuncId} {fn : Func} {c : Code} (hf : P.funcs[g]? = some fn) (hb : fn.body = some c) (hn : (fn.name == "runtime.NumGoroutine") = false)
    {H : List Ob} {args : List AV} {K : AV → List Ob → Prop} (hl : args.length ≤ fn.ntmps) (h : Tri P c ⟨fn.ntmps, H.length, initRegs args, H⟩ (finC G fn.results.toList K)) : CallP P g H args K := by
  refine ⟨callable_of hf hb hn, fun C0 w F e vs M0 hr => calls_of_wp hf hb ?_⟩
  let C : Ctx := ⟨w, fun b => ∃ o, Owner e H o b, e, F⟩
  have M : Mem C H w F e := ⟨M0.heap, ⟨rfl, rfl, rfl, Nat.le_refl _, fun _ _ _ => rfl⟩, fun o b ho => .inr ⟨o, ho⟩, fun b hb => hb, M0.bound, fun b hb => .inl hb, EnvLe.refl _, ⟨M0.gw, fun b ⟨o, ho⟩ => M0.gn ho⟩⟩
  have hS := init_sat (C := C) M M0.heap.len hr hl
  refine wp_mono (h.out C _ w F e hS) ?_
  rintro ex a' w' ⟨S', F', e', hq, hs⟩
  have fin : resS G S' fn.results.toList (fun r => K r S'.heap) → a'.defers = [] ∧ ∃ v, (results fn a'.tmps).run P w' = .ok v w' ∧ (∃ r x H' F' e', Ending.returned v = .returned x ∧ K r H' ∧ Mem C0 H' w' F' e' ∧ Rep w' F' e' r x ∧ EnvLe e e' ∧ Later w F w' F') := by
    intro hres
    obtain ⟨r, x, hk, hrep, hrun⟩ := resS_sound hG hs.here fn hres
    have M' := hs.mem
    have old : ∀ b, (∃ o, Owner e H o b) → C0.w0.heap.size ≤ b ∨ C0.own0 b := fun b ⟨o, ho⟩ => M0.ours o b ho
    refine ⟨hs.defers, x, hrun, r, x, S'.heap, F', e', rfl, hk, ⟨M'.heap, ⟨M'.mod.os.trans M0.mod.os, M'.mod.tape.trans M0.mod.tape, M'.mod.output.trans M0.mod.output, Nat.le_trans M0.mod.size M'.mod.size, fun b hb hno => ?_⟩, fun o b ho => ?_, fun b hb => M'.sub b (M0.sub b hb), M'.bound, fun b hb => ?_, M0.env.trans M'.env, M0.g⟩, hrep, M'.env, ⟨M'.sub, fun b hb => ?_⟩⟩
    · rw [M'.mod.block b (Nat.lt_of_lt_of_le hb M0.mod.size) (fun h => ?_)]
      · exact M0.mod.block b hb hno
      · rcases old b h with k | k
        · omega
        · exact hno k
    · rcases M'.ours o b ho with k | k
      · exact .inl (Nat.le_trans M0.mod.size k)
      · exact old b k
    · rcases M'.fresh b hb with k | k | k
      · exact M0.fresh b k
      · exact .inr (.inl (Nat.le_trans M0.mod.size k))
      · exact .inr (old b k)
    · exact M'.mod.block b (M0.bound b hb) (fun ⟨o, ho⟩ => ho.notF M0.heap hb)
  cases ex with
  | normal => exact fin hq
  | ret => exact fin hq
  | _ => exact hq.elim

end
end Go.Ab

/- Helpers for the table of types. -/
namespace Go.Ab
theorem TGood.of_facts {P : Program} {t : TypeId} {ti : TI} (d : TypeDesc) (hd : P.underlying t = some d) (hf : ti.u.Fits d) (i : TypeInfo) (hi : P.info? t = some i) (hs : i.size = ti.size) (hb : i.bytes = ti.bytes) (z : Value) (hz : i.zero = some z) (hzc : z.cells.toList = ti.zero)
    (hp : (!ti.plain || (!P.stoodInHeld t && !P.eqGuardType P.depth t)) = true) (hc : (!ti.conc || P.concrete t) = true) (hl : ti.zero.length = ti.size)
    (hk : (match ti.u with | .struct fs => fs.all (fun f => (P.info? f.2).isSome) | _ => true) = true) : TGood P t ti where
  und := ⟨d, hd, hf⟩
  info := ⟨i, hi, hs, hb, z, hz, hzc⟩
  plain := fun h => by rw [h] at hp; simpa using hp
  conc := fun h => by rw [h] at hc; simpa using hc
  zlen := hl
  kids := fun fs h f hfm => by
    rw [h] at hk
    have := List.all_eq_true.1 hk f hfm
    exact Option.isSome_iff_exists.1 this

def TyOkFrom (P : Program) : Nat → Tys → Prop
  | _, [] => True
  | n, none :: r => TyOkFrom P (n + 1) r
  | n, some ti :: r => TGood P n ti ∧ TyOkFrom P (n + 1) r

theorem tyOk_from {P : Program} : ∀ (G : Tys) (n : Nat), TyOkFrom P n G → ∀ (t : Nat) ti, G[t]? = some (some ti) → TGood P (n + t) ti
  | [], n, _, t, ti, h => by simp at h
  | none :: r, n, hG, t, ti, h => by
    cases t with
    | zero => simp at h
    | succ t => have := tyOk_from r (n + 1) hG t ti (by simpa using h); rwa [Nat.add_assoc, Nat.add_comm 1 t] at this
  | some x :: r, n, hG, t, ti, h => by
    cases t with
    | zero => simp at h; subst h; exact hG.1
    | succ t => have := tyOk_from r (n + 1) hG.2 t ti (by simpa using h); rwa [Nat.add_assoc, Nat.add_comm 1 t] at this
theorem tyOk_of {P : Program} {G : Tys} (h : TyOkFrom P 0 G) : TyOk P G := fun t ti ht => by
  have := tyOk_from G 0 h t ti ht
  rwa [Nat.zero_add] at this
end Go.Ab

/- Letting go: of registers, of objects; loops told by a family of states. -/
namespace Go.Ab
set_option linter.unusedVariables false
set_option linter.unusedSimpArgs false

mutual
/-- Does it speak of the first m objects alone? -/
def within (m : Nat) : AV → Bool
  | .ptr o _ => Nat.blt o m
  | .row o _ => Nat.blt o m
  | .rptr o _ _ _ _ => Nat.blt o m
  | .vw o _ _ _ _ => Nat.blt o m
  | .fn _ a b => withins m a && withins m b
  | .ifc _ x => within m x
  | .agg cs => withins m cs
  | .tup cs => withins m cs
  | .mp o => Nat.blt o m
  | _ => true
def withins (m : Nat) : List AV → Bool
  | [] => true
  | x :: r => within m x && withins m r
end

def withinOb (m : Nat) : Ob → Bool
  | .var _ cs => withins m cs
  | _ => true
def withinObs (m : Nat) : List Ob → Bool
  | [] => true
  | x :: r => withinOb m x && withinObs m r

def Env.cut (e : Env) (m : Nat) : Env := { e with len := m }

section
variable {C : Ctx} {S : St} {a : Act} {H : List Ob} {w : World} {F : Nat → Prop} {e : Env} {m : Nat}

theorem blt_lt {a b : Nat} (h : Nat.blt a b = true) : a < b := by simpa [Nat.blt_eq] using h

mutual
theorem within_cut : ∀ (s : AV) (x : Value), within m s = true → Rep w F e s x → Rep w F (e.cut m) s x
  | .v y, x, _, h => by rw [h.v_inv]; exact .v
  | .sl xs, x, _, h => by cases h with | sl sz a vals hc hA hsz hone hcell hrep => exact .sl sz a vals hc hA hsz hone hcell hrep
  | .ptr o off, x, hp, h => by have hlt : o < m := blt_lt (by simpa [within] using hp); cases h with | ptr hl => exact .ptr (e := e.cut m) hlt
  | .row o n, x, hp, h => by
    have hlt : o < m := blt_lt (by simpa [within] using hp)
    cases h with
    | row hl hn hv => exact .row (e := e.cut m) hlt hn hv
    | rowold hl hn => exact .rowold (e := e.cut m) hlt hn
  | .rptr o n sz i off, x, hp, h => by
    have hlt : o < m := blt_lt (by simpa [within] using hp)
    cases h with
    | rptr hl hn hv => exact .rptr (e := e.cut m) hlt hn hv
    | rptrold hl hn => exact .rptrold (e := e.cut m) hlt hn
  | .vw o n sz lo hi, x, hp, h => by
    have hlt : o < m := blt_lt (by simpa [within] using hp)
    cases h with
    | vw hl hn hv h1 h2 h3 h4 => exact .vw (e := e.cut m) hlt hn hv h1 h2 h3 h4
    | vwold hl hn => exact .vwold (e := e.cut m) hlt hn
  | .mp o, x, hp, h => by have hlt : o < m := blt_lt (by simpa [within] using hp); cases h with | mp hl => exact .mp (e := e.cut m) hlt
  | .eptr cs, x, _, h => by cases h with | eptr a vals hF ha hcell hrep => exact .eptr a vals hF ha hcell hrep
  | .fn f as bs, x, hp, h => by
    simp only [within, Bool.and_eq_true] at hp
    cases h with
    | @fn _ _ _ _ fs cs h1 h2 r1 r2 => exact .fn h1 h2 (withins_cut as _ hp.1 r1) (withins_cut bs _ hp.2 r2)
  | .ifc t y, x, hp, h => by
    obtain ⟨z, rfl, hz⟩ := h.ifc_inv
    exact .ifc (within_cut y z (by simpa [within] using hp) hz)
  | .agg cs, x, hp, h => by
    obtain ⟨vs, rfl, h1, h2⟩ := h.agg_inv
    exact .agg h1 (withins_cut cs _ (by simpa [within] using hp) h2)
  | .tup cs, x, hp, h => by
    obtain ⟨vs, rfl, h1, h2⟩ := h.tup_inv
    exact .tup h1 (withins_cut cs _ (by simpa [within] using hp) h2)
  | .dead, x, _, _ => .dead
theorem withins_cut : ∀ (cs : List AV) (f : Nat → Value), withins m cs = true → (∀ (j : Nat) s, cs[j]? = some s → Rep w F e s (f j)) → ∀ (j : Nat) s, cs[j]? = some s → Rep w F (e.cut m) s (f j)
  | [], f, _, _, j, s, hj => by simp at hj
  | c :: r, f, hp, h, j, s, hj => by
    simp only [withins, Bool.and_eq_true] at hp
    cases j with
    | zero => simp at hj; subst hj; exact within_cut c (f 0) hp.1 (h 0 c rfl)
    | succ j => exact withins_cut r (fun q => f (q + 1)) hp.2 (fun q s hq => h (q + 1) s (by simpa using hq)) j s (by simpa using hj)
end

theorem withinObs_get {l : List Ob} (h : withinObs m l = true) : ∀ (o : Nat) b, l[o]? = some b → withinOb m b = true := by
  induction l with
  | nil => intro o b hb; simp at hb
  | cons x r ih =>
    intro o b hb
    simp only [withinObs, Bool.and_eq_true] at h
    cases o with
    | zero => simp at hb; subst hb; exact h.1
    | succ o => exact ih h.2 o b (by simpa using hb)

theorem Mem.cut (M : Mem C H w F e) (hm : m ≤ H.length) (h0 : C.e0.len ≤ m) (hs : withinObs m (H.take m) = true) : Mem C (H.take m) w F (e.cut m) := by
  have hget : ∀ (o : Nat) b, (H.take m)[o]? = some b → o < m ∧ H[o]? = some b := by
    intro o b hb
    have hlt : o < m := by
      have := (List.getElem?_eq_some_iff.1 hb).1
      rw [List.length_take] at this
      omega
    rw [List.getElem?_take_of_lt hlt] at hb
    exact ⟨hlt, hb⟩
  have hown : ∀ o b, Owner (e.cut m) (H.take m) o b → Owner e H o b := by
    intro o b ho
    unfold Owner at ho ⊢
    cases hc : (H.take m)[o]? with
    | none => rw [hc] at ho; exact ho.elim
    | some x =>
      rw [hc] at ho
      rw [(hget o x hc).2]
      exact ho
  refine ⟨⟨by simp [Env.cut]; omega, fun o b hb => ?_, fun o o' b h1 h2 => M.heap.one _ _ _ (hown _ _ h1) (hown _ _ h2)⟩, M.mod, fun o b ho => M.ours o b (hown _ _ ho), M.sub, M.bound, M.fresh, ⟨h0, M.env.blk, M.env.row⟩, M.g⟩
  obtain ⟨hlt, hb'⟩ := hget o b hb
  have hob := M.heap.ob o b hb'
  have hsc := withinObs_get hs o b hb
  cases b with
  | var T cs =>
    obtain ⟨hF, vs, h1, h2, h3⟩ := hob
    exact ⟨hF, vs, h1, h2, withins_cut cs _ (by simpa [withinOb] using hsc) h3⟩
  | row el sz xs => exact hob
  | frz sz xs => exact hob
  | ext R => exact hob
  | gone => trivial

/-- Registers, named. -/
noncomputable def ofRegs (l : List (Nat × AV)) : Nat → AV := fun t => match l with
  | [] => .dead
  | p :: r => @Bool.rec (fun _ => AV) (ofRegs r t) p.2 (Nat.beq p.1 t)

theorem ofRegs_cases (l : List (Nat × AV)) (t : Nat) : ofRegs l t = .dead ∨ ∃ p ∈ l, p.1 = t ∧ ofRegs l t = p.2 := by
  induction l with
  | nil => exact .inl rfl
  | cons p r ih =>
    unfold ofRegs
    cases hb : Nat.beq p.1 t with
    | true => exact .inr ⟨p, List.mem_cons_self .., Nat.eq_of_beq_eq_true hb, rfl⟩
    | false =>
      rcases ih with h | ⟨q, hq, h1, h2⟩
      · exact .inl h
      · exact .inr ⟨q, List.mem_cons_of_mem _ hq, h1, h2⟩

/-- All that is asked of the registers that are kept. -/
def Keeps (S : St) : List (Nat × AV) → Prop
  | [] => True
  | p :: r => S.regs p.1 = p.2 ∧ Keeps S r
theorem Keeps.get {S : St} {l : List (Nat × AV)} (h : Keeps S l) : ∀ p ∈ l, S.regs p.1 = p.2 := by
  induction l with
  | nil => intro p hp; cases hp
  | cons q r ih =>
    intro p hp
    rcases List.mem_cons.1 hp with rfl | hp
    · exact h.1
    · exact ih h.2 p hp

theorem weak_keep {n b : Nat} {l : List (Nat × AV)} {H : List Ob} (hn : S.n = n) (hb : S.base = b) (hh : S.heap = H) (hr : Keeps S l) : Weak S ⟨n, b, ofRegs l, H⟩ := by
  refine ⟨fun C a w F e h => ⟨F, e, h.defers, h.size.trans hn, h.base.trans hb, fun t => ?_, by rw [← hh]; exact h.mem⟩⟩
  rcases ofRegs_cases l t with h1 | ⟨p, hp, rfl, h2⟩
  · simp only; rw [h1]; exact .dead
  · simp only; rw [h2, ← hr.get p hp]; exact h.regs p.1

/-- Objects from m on are let go. -/
theorem weak_cut {n b : Nat} {l : List (Nat × AV)} {H : List Ob} (hn : S.n = n) (hb : S.base = b) (m : Nat) (hm : Nat.ble m S.heap.length = true) (hbm : Nat.ble b m = true) (hh : S.heap.take m = H) (hr : Keeps S l) (hs : withinObs m H = true) (hl : withins m (l.map (·.2)) = true) : Weak S ⟨n, b, ofRegs l, H⟩ := by
  refine ⟨fun C a w F e h => ⟨F, e.cut m, h.defers, h.size.trans hn, h.base.trans hb, fun t => ?_, by rw [← hh]; exact h.mem.cut (Nat.le_of_ble_eq_true hm) (by rw [h.base, hb]; exact Nat.le_of_ble_eq_true hbm) (by rw [hh]; exact hs)⟩⟩
  have hsc : ∀ p ∈ l, within m p.2 = true := by
    clear hr
    induction l with
    | nil => intro p hp; cases hp
    | cons q r ih =>
      intro p hp
      simp only [List.map_cons, withins, Bool.and_eq_true] at hl
      rcases List.mem_cons.1 hp with rfl | hp
      · exact hl.1
      · exact ih hl.2 p hp
  rcases ofRegs_cases l t with h1 | ⟨p, hp, rfl, h2⟩
  · simp only; rw [h1]; exact .dead
  · simp only; rw [h2]
    have := h.regs p.1
    rw [hr.get p hp] at this
    exact within_cut p.2 _ (hsc p hp) this

/-- A register that holds nil becomes a row that is ours, of no elements. -/
theorem weak_nil (t el sz : Nat) (ht : S.regs t = .v (.slice none 0 0)) : Weak S ⟨S.n, S.base, upd S.regs t (.row S.heap.length 0), S.heap ++ [.row el sz []]⟩ := by
  refine ⟨fun C a w F e h => ?_⟩
  have hr : OwnRow w F el sz [] (.slice none 0 0) := ⟨fun i cs hi => by simp at hi, .inl ⟨rfl, rfl⟩⟩
  have M := h.mem.pushRow (x := .slice none 0 0) (xs := []) (Touch.refl w _) hr (fun b hb => by cases hb)
  refine ⟨F, e.pushRow 0 (.slice none 0 0), h.defers, h.size, h.base, fun s => ?_, M⟩
  simp only
  by_cases hs : s = t
  · subst hs
    rw [upd_same]
    have hv := h.regs s
    rw [ht] at hv
    rw [hv.v_inv]
    have hlt : S.heap.length < (e.pushRow 0 (.slice none 0 0)).len := by show S.heap.length < e.len + 1; rw [h.mem.heap.len]; omega
    refine .row hlt ?_ ?_
    · simp only [Env.pushRow]; rw [← h.mem.heap.len, upd_same]
    · simp only [Env.pushRow]; rw [← h.mem.heap.len, upd_same]
  · rw [upd_other _ _ _ hs]
    exact (h.regs s).mono (Later.refl w F) (EnvLe.pushRow e _ _)

end
end Go.Ab

/- Functions that hand back a row of their own, or one that they were handed. -/
namespace Go.Ab
set_option linter.unusedVariables false
set_option linter.unusedSimpArgs false

/-- The end of such a function. -/
def finE (G : Gm) (rs : List ResultVar) (el sz : Nat) (K : List (List AV) → Prop) (x : Exit) (S : St) : Prop :=
  match x with
  | .normal => resS G S rs (rowE S el sz K)
  | .ret => resS G S rs (rowE S el sz K)
  | _ => False
  where
  rowE (S : St) (el sz : Nat) (K : List (List AV) → Prop) (r : AV) : Prop :=
    match r with
    | .row o n => (match S.heap[o]? with | some (.row el' sz' ys) => Chk (Nat.beq el' el && Nat.beq sz' sz) <| Need (n = ys.length) <| K ys | _ => False)
    | .vw o n s lo hi => (match S.heap[o]? with | some (.row el' sz' ys) => Chk (Nat.beq el' el && Nat.beq sz' sz) <| Need (lo = 0 ∧ n = ys.length) <| K (ys.take hi) | _ => False)
    | .v (.slice none 0 0) => K []
    | _ => False

section
variable {P : Program} {G : Gm} {C : Ctx} {S : St} {a : Act} {H : List Ob} {w w' : World} {F F' : Nat → Prop} {e e' : Env}

theorem OwnRow.part {el sz : Nat} {xs : List (List AV)} {b c k : Nat} (h : OwnRow w F el sz xs (.slice (some ⟨b, 0, none⟩) xs.length c)) (hk : k ≤ xs.length) : OwnRow w F el sz (xs.take k) (.slice (some ⟨b, 0, none⟩) k c) := by
  obtain ⟨hsz, h⟩ := h
  have hg : ∀ (i : Nat) cs, (xs.take k)[i]? = some cs → xs[i]? = some cs := by
    intro i cs hi
    have hlt : i < k := by have := (List.getElem?_eq_some_iff.1 hi).1; rw [List.length_take] at this; omega
    rwa [List.getElem?_take_of_lt hlt] at hi
  refine ⟨fun i cs hi => hsz i cs (hg i cs hi), ?_⟩
  rcases h with ⟨_, hv⟩ | ⟨b', c', vs, hv, hF, hb, hvs, hle, hmx, hrep⟩
  · cases hv
  · injection hv with hv _ hc
    injection hv with hv
    injection hv with hv _ _
    subst hv hc
    refine .inr ⟨b, c, vs, ?_, hF, hb, hvs, ?_, hmx, fun i cs j s hi hj => hrep i cs j s (hg i cs hi) hj⟩
    · rw [List.length_take, Nat.min_eq_left hk]
    · rw [List.length_take]; omega

theorem rowE_sound {el sz : Nat} {K : List (List AV) → Prop} (M : Mem C S.heap w F e) {r : AV} {x : Value} (hr : Rep w F e r x) (h : finE.rowE S el sz K r) :
    ∃ ys, K ys ∧ OwnRow w F el sz ys x ∧ ∀ b, x.ownBlock = some b → C.w0.heap.size ≤ b ∨ C.own0 b := by
  unfold finE.rowE at h
  split at h
  · rename_i o n
    split at h
    case h_2 => exact h.elim
    rename_i el' sz' ys ho
    have hh := h.elim
    clear h
    obtain ⟨hq, ⟨hn, hK⟩⟩ := hh
    simp only [Bool.and_eq_true] at hq
    obtain rfl := Nat.eq_of_beq_eq_true hq.1
    obtain rfl := Nat.eq_of_beq_eq_true hq.2
    obtain ⟨hrl, hown⟩ := M.heap.ob o _ ho
    cases hr with
    | rowold _ hn2 => omega
    | row hl hn2 hv =>
      rw [← hv]
      exact ⟨ys, hK, hown, fun b hb => M.ours o b (own_block ho M hb)⟩
  · rename_i o n s lo hi
    split at h
    case h_2 => exact h.elim
    rename_i el' sz' ys ho
    have hh := h.elim
    clear h
    obtain ⟨hq, ⟨⟨hlo, hn⟩, hK⟩⟩ := hh
    simp only [Bool.and_eq_true] at hq
    obtain rfl := Nat.eq_of_beq_eq_true hq.1
    obtain rfl := Nat.eq_of_beq_eq_true hq.2
    subst hlo
    obtain ⟨hrl, hown⟩ := M.heap.ob o _ ho
    cases hr with
    | vwold _ hn2 => omega
    | @vw _ _ _ _ _ _ b m c off hl hn2 hv hle hhi hpos hoff =>
      obtain ⟨hm, hsz, vs, hb, hvs, hcap, hmx, hrep⟩ := row_block M ho hv
      have hoff0 : off = 0 := by have := hoff (by omega); simpa using this
      subst hoff0
      subst hm
      rw [hv] at hown
      refine ⟨ys.take hi, hK, ?_, fun b' hb' => ?_⟩
      · have := hown.part (k := hi) (by omega)
        simpa using this
      · simp only [Value.ownBlock, Option.some.injEq] at hb'
        subst hb'
        exact M.ours o b (by unfold Owner; rw [ho]; exact ⟨_, _, hv⟩)
  · have := hr.v_inv
    subst this
    exact ⟨[], h, ⟨fun i cs hi => by simp at hi, .inl ⟨rfl, rfl⟩⟩, fun b hb => by cases hb⟩
  · exact h.elim

theorem fresh_of (hG : TyOk P G.tys) {g : FuncId} {fn : Func} {c : Code} (hf : P.funcs[g]? = some fn) (hb : fn.body = some c) (hn : (fn.name == "runtime.NumGoroutine") = false)
    {args : List AV} {el sz : Nat} {K : List (List AV) → Prop} (hl : args.length ≤ fn.ntmps) (h : Tri P c ⟨fn.ntmps, 0, initRegs args, []⟩ (finE G fn.results.toList el sz K)) : FreshP P g args el sz K := by
  refine ⟨callable_of hf hb hn, fun w F vs hgw hbd hr => calls_of_wp hf hb ?_⟩
  let C : Ctx := ⟨w, fun _ => False, Env.nil, F⟩
  have M : Mem C [] w F Env.nil := ⟨⟨rfl, fun o b ho => by simp at ho, fun o o' b ho => by unfold Owner at ho; simp at ho⟩, ⟨rfl, rfl, rfl, Nat.le_refl _, fun _ _ _ => rfl⟩, fun o b ho => by unfold Owner at ho; simp at ho, fun b hb => hb, hbd, fun b hb => .inl hb, EnvLe.refl _, ⟨hgw, fun b h => h.elim⟩⟩
  have hS := init_sat (C := C) M rfl hr hl
  refine wp_mono (h.out C _ w F Env.nil hS) ?_
  rintro ex a' w' ⟨S', F', e', hq, hs⟩
  have fin : resS G S' fn.results.toList (finE.rowE S' el sz K) → a'.defers = [] ∧ ∃ v, (results fn a'.tmps).run P w' = .ok v w' ∧ (∃ ys x F'', Ending.returned v = .returned x ∧ K ys ∧ OwnRow w' F'' el sz ys x ∧ (∀ b, x.ownBlock = some b → w.heap.size ≤ b) ∧ (∀ b, F b → F'' b) ∧ (∀ b, F'' b → F b ∨ w.heap.size ≤ b) ∧ (∀ b, F'' b → b < w'.heap.size) ∧ Touch w w' (fun _ => False)) := by
    intro hres
    obtain ⟨r, x, hk, hrep, hrun⟩ := resS_sound hG hs.here fn hres
    have M' := hs.mem
    obtain ⟨ys, hK, hown, hblk⟩ := rowE_sound M' hrep hk
    refine ⟨hs.defers, x, hrun, ys, x, F', rfl, hK, hown, fun b hb => ?_, M'.sub, fun b hb => ?_, M'.bound, ⟨M'.mod.os, M'.mod.tape, M'.mod.output, M'.mod.size, fun b hb _ => M'.mod.block b hb (fun h => h)⟩⟩
    · rcases hblk b hb with h | h
      · exact h
      · exact h.elim
    · rcases M'.fresh b hb with h | h | h
      · exact .inl h
      · exact .inr h
      · exact h.elim
  cases ex with
  | normal => exact fin hq
  | ret => exact fin hq
  | _ => exact hq.elim

theorem eat_of (hG : TyOk P G.tys) {g : FuncId} {fn : Func} {c : Code} (hf : P.funcs[g]? = some fn) (hb : fn.body = some c) (hn : (fn.name == "runtime.NumGoroutine") = false)
    {args : List AV} {el sz : Nat} {xs : List (List AV)} {K : List (List AV) → Prop} (hl : args.length + 1 ≤ fn.ntmps) (h : Tri P c ⟨fn.ntmps, 1, initRegs (.row 0 xs.length :: args), [.row el sz xs]⟩ (finE G fn.results.toList el sz K)) : EatP P g el sz xs args K := by
  refine ⟨callable_of hf hb hn, fun w F v vs hgw hgn hbd hown hr => calls_of_wp hf hb ?_⟩
  let e1 : Env := ⟨1, fun _ => 0, fun _ => xs.length, fun _ => v⟩
  let C : Ctx := ⟨w, fun b => v.ownBlock = some b, e1, F⟩
  have hOw : ∀ o b, Owner e1 [.row el sz xs] o b → v.ownBlock = some b := by
    intro o b ho
    unfold Owner at ho
    cases o with
    | zero =>
      simp at ho
      obtain ⟨n, c, hv⟩ := ho
      have hv : v = _ := hv
      rw [hv]; rfl
    | succ o => simp at ho
  have M : Mem C [.row el sz xs] w F e1 := by
    refine ⟨⟨rfl, fun o b ho => ?_, fun o o' b h1 h2 => ?_⟩, ⟨rfl, rfl, rfl, Nat.le_refl _, fun _ _ _ => rfl⟩, fun o b ho => .inr (hOw o b ho), fun b hb => hb, hbd, fun b hb => .inl hb, EnvLe.refl _, ⟨hgw, hgn⟩⟩
    · cases o with
      | zero => simp at ho; subst ho; exact ⟨rfl, hown⟩
      | succ o => simp at ho
    · have hz : ∀ o, Owner e1 [.row el sz xs] o b → o = 0 := by
        intro o ho
        cases o with
        | zero => rfl
        | succ o => unfold Owner at ho; simp at ho
      rw [hz o h1, hz o' h2]
  have hsl : ∃ A' m cc, v = .slice A' m cc := by
    rcases hown.2 with ⟨_, hv'⟩ | ⟨b, cc, vs, hv', _⟩
    · exact ⟨_, _, _, hv'⟩
    · exact ⟨_, _, _, hv'⟩
  have hr1 : RepCells w F e1 (.row 0 xs.length :: args) (#[v] ++ vs) := by
    refine ⟨by have := hr.1; simp; omega, fun j s hj => ?_⟩
    cases j with
    | zero =>
      simp at hj
      subst hj
      obtain ⟨A', m, cc, rfl⟩ := hsl
      have : (#[Value.slice A' m cc] ++ vs).getD 0 undef = .slice A' m cc := by
        rw [Array.getD_eq_getD_getElem?, Array.getElem?_append_left (by simp)]; rfl
      rw [this]
      exact .row (e := e1) (Nat.zero_lt_one) rfl rfl
    | succ j =>
      have := hr.2 j s (by simpa using hj)
      have e2 : (#[v] ++ vs).getD (j + 1) undef = vs.getD j undef := by
        rw [Array.getD_eq_getD_getElem?, Array.getElem?_append_right (by simp), Array.getD_eq_getD_getElem?]; rfl
      rw [e2]
      exact this.env
  have hS := init_sat (C := C) M rfl hr1 (by simpa using hl)
  refine wp_mono (h.out C _ w F e1 hS) ?_
  rintro ex a' w' ⟨S', F', e', hq, hs⟩
  have fin : resS G S' fn.results.toList (finE.rowE S' el sz K) → a'.defers = [] ∧ ∃ y, (results fn a'.tmps).run P w' = .ok y w' ∧ (∃ ys x F'', Ending.returned y = .returned x ∧ K ys ∧ OwnRow w' F'' el sz ys x ∧ (∀ b, x.ownBlock = some b → v.ownBlock = some b ∨ w.heap.size ≤ b) ∧ (∀ b, F b → F'' b) ∧ (∀ b, F'' b → F b ∨ w.heap.size ≤ b ∨ v.ownBlock = some b) ∧ (∀ b, F'' b → b < w'.heap.size) ∧ Touch w w' (fun b => v.ownBlock = some b)) := by
    intro hres
    obtain ⟨r, x, hk, hrep, hrun⟩ := resS_sound hG hs.here fn hres
    have M' := hs.mem
    obtain ⟨ys, hK, hown', hblk⟩ := rowE_sound M' hrep hk
    refine ⟨hs.defers, x, hrun, ys, x, F', rfl, hK, hown', fun b hb => (hblk b hb).symm, M'.sub, fun b hb => M'.fresh b hb, M'.bound, ⟨M'.mod.os, M'.mod.tape, M'.mod.output, M'.mod.size, fun b hb hn => M'.mod.block b hb hn⟩⟩
  cases ex with
  | normal => exact fin hq
  | ret => exact fin hq
  | _ => exact hq.elim

end
end Go.Ab

/- From one state to a plainer one: rows are frozen, what is nil becomes a row, what is of no use goes. -/
namespace Go.Ab
set_option linter.unusedVariables false
set_option linter.unusedSimpArgs false

/-- Whatever has the one has the other one. -/
inductive Le (H : List Ob) : AV → AV → Prop
  | same {a b} (h : a = b) : Le H a b
  | dead {a} : Le H a .dead
  | nil : Le H (.v (.slice none 0 0)) (.sl [])
  | frz {o n sz xs} (h : H[o]? = some (.frz sz xs)) (hn : n = xs.length) : Le H (.row o n) (.sl xs)
  | frzvw {o n sz lo hi xs ys} (h : H[o]? = some (.frz sz xs)) (hn : n = xs.length) (hy : ys = (xs.take hi).drop lo) : Le H (.vw o n sz lo hi) (.sl ys)

inductive LeL (H : List Ob) : List AV → List AV → Prop
  | nil : LeL H [] []
  | cons {a b r s} (h : Le H a b) (t : LeL H r s) : LeL H (a :: r) (b :: s)

/-- For a register. -/
inductive LeR (H : List Ob) : AV → AV → Prop
  | one {a b} (h : Le H a b) : LeR H a b
  | agg {r s} (h : LeL H r s) : LeR H (.agg r) (.agg s)

inductive LeO (H : List Ob) : Ob → Ob → Prop
  | same {a b} (h : a = b) : LeO H a b
  | var {T r s} (h : LeL H r s) : LeO H (.var T r) (.var T s)
  | gone {a} : LeO H a .gone

/-- Objects, from the first on. -/
inductive LeH (H : List Ob) : List Ob → List Ob → Prop
  | nil : LeH H [] []
  | cons {a b r s} (h : LeO H a b) (t : LeH H r s) : LeH H (a :: r) (b :: s)

section
variable {P : Program} {C : Ctx} {S : St} {H H' : List Ob} {w : World} {F : Nat → Prop} {e : Env}

theorem Le.rep (M : HRep w F e H) {a b : AV} (h : Le H a b) {x : Value} (hr : Rep w F e a x) : Rep w F e b x := by
  cases h with
  | same h => subst h; exact hr
  | dead => exact .dead
  | nil =>
    rw [hr.v_inv]
    exact .sl 0 default (fun _ _ => undef) (Nat.le_refl 0) (fun h => absurd rfl h) (fun i cs h => by simp at h) (fun i cs h => by simp at h) (fun i cs j s h => by simp at h) (fun i cs j s h => by simp at h)
  | @frz o n sz xs h hn =>
    obtain ⟨hrl, _, hsl⟩ := M.ob o _ h
    cases hr with
    | row hl hn' hv => rw [← hv]; exact hsl.env
    | rowold hl hn' => omega
  | @frzvw o n sz lo hi xs ys h hn hy =>
    subst hy
    obtain ⟨hrl, hall, hsl⟩ := M.ob o _ h
    cases hr with
    | vwold hl hn' => omega
    | @vw _ _ _ _ _ _ b m c off hl hn' hv hle hhi h0 hoff =>
      rw [hv] at hsl
      cases hsl with
      | @sl _ _ _ _ sz' a vals hc hA hsz hone hcell hrep =>
        have hlen : ((xs.take hi).drop lo).length = hi - lo := by rw [List.length_drop, List.length_take]; omega
        have hxs : xs ≠ [] := by intro hx; subst hx; simp at hn; omega
        obtain ⟨hA1, hA2, hA3⟩ := hA hxs
        injection hA1 with hA1
        subst hA1
        have key : Rep w F e (.sl ((xs.take hi).drop lo)) (.slice (some ⟨b, off, none⟩) ((xs.take hi).drop lo).length (c - lo)) := by
          refine .sl sz' ⟨b, off, none⟩ (fun i j => vals (lo + i) j) (by rw [hlen]; omega) (fun hne => ⟨rfl, hA2, rfl⟩) (fun i cs hi' => ?_) (fun i cs hi' => ?_) (fun i cs j s hi' hj => ?_) (fun i cs j s hi' hj => ?_)
          all_goals
            have hlt : lo + i < hi := by
              have := (List.getElem?_eq_some_iff.1 hi').1
              rw [hlen] at this
              omega
            have hi2 : xs[lo + i]? = some cs := by
              rw [List.getElem?_drop, List.getElem?_take_of_lt hlt] at hi'
              exact hi'
          · exact hsz _ _ hi2
          · exact hone _ _ hi2
          · have hss : sz' = sz := by rw [← hsz _ _ hi2]; exact hall _ _ hi2
            have := hcell _ cs j s hi2 hj
            rw [hoff (by omega)]
            simp only at this ⊢
            rw [Nat.zero_add, Nat.add_mul, hss] at this
            rw [hss]
            exact this
          · exact hrep _ cs j s hi2 hj
        rw [hlen] at key
        exact key

theorem LeL.len {r s : List AV} (h : LeL H r s) : r.length = s.length := by
  induction h with
  | nil => rfl
  | cons _ _ ih => simp [ih]
theorem LeL.rep (M : HRep w F e H) {r s : List AV} (h : LeL H r s) : ∀ {f : Nat → Value}, (∀ (j : Nat) a, r[j]? = some a → Rep w F e a (f j)) → ∀ (j : Nat) b, s[j]? = some b → Rep w F e b (f j) := by
  induction h with
  | nil => intro f _ j b hb; simp at hb
  | cons h t ih =>
    intro f hr j b hb
    cases j with
    | zero => simp at hb; subst hb; exact h.rep M (hr 0 _ rfl)
    | succ j => exact ih (f := fun j => f (j + 1)) (fun j a ha => hr (j + 1) a (by simpa using ha)) j b (by simpa using hb)
theorem LeR.rep (M : HRep w F e H) {a b : AV} (h : LeR H a b) {x : Value} (hr : Rep w F e a x) : Rep w F e b x := by
  cases h with
  | one h => exact h.rep M hr
  | agg h =>
    obtain ⟨vs, rfl, h1, h2⟩ := hr.agg_inv
    exact .agg (by rw [h1, h.len]) (h.rep M h2)

theorem LeH.len {r s : List Ob} (h : LeH H r s) : r.length = s.length := by
  induction h with
  | nil => rfl
  | cons _ _ ih => simp [ih]
theorem LeH.get {r s : List Ob} (h : LeH H r s) : ∀ (o : Nat) b, s[o]? = some b → ∃ a, r[o]? = some a ∧ LeO H a b := by
  induction h with
  | nil => intro o b hb; simp at hb
  | cons h t ih =>
    intro o b hb
    cases o with
    | zero => simp at hb; subst hb; exact ⟨_, rfl, h⟩
    | succ o => exact ih o b (by simpa using hb)

theorem LeO.owner {a b : Ob} (h : LeO H a b) {o k : Nat} (ha : H[o]? = some a) (hb : H'[o]? = some b) (hk : Owner e H' o k) : Owner e H o k := by
  unfold Owner at *
  rw [hb] at hk
  rw [ha]
  cases h with
  | same h => subst h; exact hk
  | var h => exact hk
  | gone => exact hk.elim

theorem Mem.le (M : Mem C H w F e) (h : LeH H H H') : Mem C H' w F e := by
  have hown : ∀ o b, Owner e H' o b → Owner e H o b := by
    intro o b hb
    cases hx : H'[o]? with
    | none => unfold Owner at hb; rw [hx] at hb; exact hb.elim
    | some y =>
      obtain ⟨a, ha, hle⟩ := h.get o y hx
      exact hle.owner ha hx hb
  refine ⟨⟨by rw [M.heap.len, h.len], fun o y hy => ?_, fun o o' b h1 h2 => M.heap.one _ _ _ (hown _ _ h1) (hown _ _ h2)⟩, M.mod, fun o b hb => M.ours o b (hown o b hb), M.sub, M.bound, M.fresh, M.env, M.g⟩
  obtain ⟨a, ha, hle⟩ := h.get o y hy
  have := M.heap.ob o a ha
  cases hle with
  | same h => subst h; exact this
  | var h =>
    obtain ⟨hF, vs, h1, h2, h3⟩ := this
    exact ⟨hF, vs, h1, by rw [h2, h.len], h.rep M.heap h3⟩
  | gone => trivial

/-- What is asked of the registers that are kept. -/
inductive LeRs (S : St) : List (Nat × AV) → Prop
  | nil : LeRs S []
  | cons {t b r} (h : LeR S.heap (S.regs t) b) (k : LeRs S r) : LeRs S ((t, b) :: r)
theorem LeRs.get {l : List (Nat × AV)} (h : LeRs S l) : ∀ p ∈ l, LeR S.heap (S.regs p.1) p.2 := by
  induction h with
  | nil => intro p hp; cases hp
  | cons h k ih =>
    intro p hp
    rcases List.mem_cons.1 hp with rfl | hp
    · exact h
    · exact ih p hp

/-- The plain road: registers that are kept, objects as they are to be, those behind them let go. -/
theorem weak_fin {n b : Nat} {l : List (Nat × AV)} {H : List Ob} (D : List Ob) (hn : S.n = n) (hb : S.base = b) (hbm : Nat.ble b H.length = true) (hh : LeH S.heap S.heap (H ++ D)) (hr : LeRs S l)
    (hs : withinObs H.length H = true) (hl : withins H.length (l.map (·.2)) = true) : Weak S ⟨n, b, ofRegs l, H⟩ := by
  refine ⟨fun C a w F e h => ⟨F, e.cut H.length, h.defers, h.size.trans hn, h.base.trans hb, fun t => ?_, ?_⟩⟩
  · have hsc : ∀ p ∈ l, within H.length p.2 = true := by
      clear hr
      induction l with
      | nil => intro p hp; cases hp
      | cons q r ih =>
        intro p hp
        simp only [List.map_cons, withins, Bool.and_eq_true] at hl
        rcases List.mem_cons.1 hp with rfl | hp
        · exact hl.1
        · exact ih hl.2 p hp
    rcases ofRegs_cases l t with h1 | ⟨p, hp, rfl, h2⟩
    · simp only; rw [h1]; exact .dead
    · simp only; rw [h2]
      exact within_cut p.2 _ (hsc p hp) ((hr.get p hp).rep h.mem.heap (h.regs p.1))
  · have M := h.mem.le hh
    have := M.cut (m := H.length) (by simp) (by rw [h.base, hb]; exact Nat.le_of_ble_eq_true hbm) (by simpa using hs)
    simpa using this

/-- A row is frozen. -/
theorem weak_freeze {el sz : Nat} {xs : List (List AV)} (o : Nat) (ho : S.heap[o]? = some (.row el sz xs)) : Weak S { S with heap := S.heap.set o (.frz sz xs) } := by
  refine ⟨fun C a w F e h => ?_⟩
  obtain ⟨F', L, M', _, _⟩ := h.mem.freeze ho
  exact ⟨F', e, h.defers, h.size, h.base, fun t => (h.regs t).mono L (EnvLe.refl e), M'⟩

/-- A cell of a variable that holds nil holds a row that is ours, of no elements. -/
theorem weak_nilcell {T : TypeId} {cs : List AV} (o j el sz : Nat) (ho : S.heap[o]? = some (.var T cs)) (hj : cs[j]? = some (.v (.slice none 0 0))) : Weak S { S with heap := (S.heap.set o (.var T (cs.set j (.row S.heap.length 0)))) ++ [.row el sz []] } := by
  refine ⟨fun C a w F e h => ?_⟩
  have hr : OwnRow w F el sz [] (.slice none 0 0) := ⟨fun i cs hi => by simp at hi, .inl ⟨rfl, rfl⟩⟩
  have M := h.mem.pushRow (x := .slice none 0 0) (xs := []) (Touch.refl w _) hr (fun b hb => by cases hb)
  have E := EnvLe.pushRow e 0 (.slice none 0 0)
  have hlt : o < S.heap.length := (List.getElem?_eq_some_iff.1 ho).1
  have ho' : (S.heap ++ [Ob.row el sz []])[o]? = some (.var T cs) := by rw [List.getElem?_append_left hlt]; exact ho
  have M2 := M.change (o := o) (H' := (S.heap ++ [Ob.row el sz []]).set o (.var T (cs.set j (.row S.heap.length 0)))) (e' := e.pushRow 0 (.slice none 0 0)) (w' := w) (.var T (cs.set j (.row S.heap.length 0))) (by simpa using M.heap.len) (by simp) (fun o' hn => by rw [List.getElem?_set_ne (Ne.symm hn)]) (List.getElem?_set_self (by rw [List.length_append]; simp only [List.length_singleton]; omega)) (EnvLe.refl _) (fun o' _ _ => ⟨rfl, rfl⟩) (Touch.refl w _) ?_ ?_
  · refine ⟨F, e.pushRow 0 (.slice none 0 0), h.defers, h.size, h.base, fun s => (h.regs s).mono (Later.refl w F) E, ?_⟩
    have : (S.heap ++ [Ob.row el sz []]).set o (.var T (cs.set j (.row S.heap.length 0))) = (S.heap.set o (.var T (cs.set j (.row S.heap.length 0)))) ++ [.row el sz []] := by
      rw [List.set_append_left _ _ hlt]
    rw [← this]
    exact M2
  · obtain ⟨hF, vs, h1, h2, h3⟩ := M.heap.ob o _ ho'
    refine ⟨hF, vs, h1, by simpa using h2, fun i s hi => ?_⟩
    by_cases hij : j = i
    · subst hij
      have hjl : j < cs.length := (List.getElem?_eq_some_iff.1 hj).1
      rw [List.getElem?_set_self hjl] at hi
      injection hi with hi
      subst hi
      have hv := (h3 j _ hj).v_inv
      rw [hv]
      have hlt2 : S.heap.length < (e.pushRow 0 (.slice none 0 0)).len := by show S.heap.length < e.len + 1; rw [h.mem.heap.len]; omega
      refine .row hlt2 ?_ ?_
      · simp only [Env.pushRow]; rw [← h.mem.heap.len, upd_same]
      · simp only [Env.pushRow]; rw [← h.mem.heap.len, upd_same]
    · rw [List.getElem?_set_ne hij] at hi
      exact h3 i s hi
  · intro b hb
    unfold Owner at hb ⊢
    rw [ho']
    simp [show o < S.heap.length + 1 by omega] at hb
    exact .inl hb

end
end Go.Ab

/- A call by a contract over a small heap: the caller's heap may have more, in whatever places. -/
namespace Go.Ab
set_option linter.unusedVariables false
set_option linter.unusedSimpArgs false

/-- Object i of the small heap lies in the place that ρ tells. -/
def rn (ρ : List Nat) (i : Nat) : Nat := match ρ[i]? with | some o => o | none => i

mutual
def ren (ρ : List Nat) : AV → AV
  | .ptr o off => .ptr (rn ρ o) off
  | .row o n => .row (rn ρ o) n
  | .rptr o n sz i off => .rptr (rn ρ o) n sz i off
  | .vw o n sz lo hi => .vw (rn ρ o) n sz lo hi
  | .fn f a b => .fn f (rens ρ a) (rens ρ b)
  | .ifc t x => .ifc t (ren ρ x)
  | .agg cs => .agg (rens ρ cs)
  | .tup cs => .tup (rens ρ cs)
  | .mp o => .mp (rn ρ o)
  | .v x => .v x
  | .sl xs => .sl xs
  | .eptr cs => .eptr cs
  | .dead => .dead
def rens (ρ : List Nat) : List AV → List AV
  | [] => []
  | a :: r => ren ρ a :: rens ρ r
end
def renO (ρ : List Nat) : Ob → Ob
  | .var T cs => .var T (rens ρ cs)
  | x => x
def renH (ρ : List Nat) : List Ob → List Ob
  | [] => []
  | a :: r => renO ρ a :: renH ρ r
/-- Objects put in their places. -/
def putObs : List Nat → List Ob → List Ob → List Ob
  | o :: r, x :: s, H => putObs r s (H.set o x)
  | _, _, H => H
/-- The objects of these places. -/
def getObs (H : List Ob) : List Nat → List (Option Ob)
  | [] => []
  | o :: r => H[o]? :: getObs H r
def somes : List Ob → List (Option Ob)
  | [] => []
  | a :: r => some a :: somes r
def distinct : List Nat → Bool
  | [] => true
  | o :: r => (match memB r o with | true => false | false => true) && distinct r
def allLt (n : Nat) : List Nat → Bool
  | [] => true
  | o :: r => Nat.blt o n && allLt n r

theorem rens_length (ρ : List Nat) : ∀ (cs : List AV), (rens ρ cs).length = cs.length
  | [] => rfl
  | c :: r => by simp [rens, rens_length ρ r]

structure EnvRn (ρ : List Nat) (e1 e2 : Env) : Prop where
  i1 : ∀ i, i < ρ.length → i < e1.len
  i2 : ∀ i, i < ρ.length → rn ρ i < e2.len
  blk : ∀ i, i < ρ.length → e2.blk (rn ρ i) = e1.blk i
  rlen : ∀ i, i < ρ.length → e2.rlen (rn ρ i) = e1.rlen i
  rowv : ∀ i, i < ρ.length → e2.rowv (rn ρ i) = e1.rowv i

section
variable {P : Program} {C : Ctx} {H H' : List Ob} {w w' : World} {F F' : Nat → Prop} {e e' e1 e2 : Env} {ρ : List Nat}

mutual
theorem rep_ren (E : EnvRn ρ e1 e2) : ∀ (s : AV) (x : Value), within ρ.length s = true → (Rep w F e1 s x ↔ Rep w F e2 (ren ρ s) x)
  | .v y, x, _ => ⟨fun h => by rw [h.v_inv]; exact .v, fun h => by rw [h.v_inv]; exact .v⟩
  | .sl xs, x, _ => ⟨fun h => by cases h with | sl sz a vals hc hA hsz hone hcell hrep => exact .sl sz a vals hc hA hsz hone hcell hrep, fun h => by simp only [ren] at h; cases h with | sl sz a vals hc hA hsz hone hcell hrep => exact .sl sz a vals hc hA hsz hone hcell hrep⟩
  | .ptr o off, x, hp => by
    have hlt : o < ρ.length := blt_lt (by simpa [within] using hp)
    simp only [ren]
    constructor
    · intro h; cases h with | ptr hl => rw [← E.blk o hlt]; exact .ptr (E.i2 o hlt)
    · intro h; obtain ⟨_, rfl⟩ := h.ptr_inv; rw [E.blk o hlt]; exact .ptr (E.i1 o hlt)
  | .row o n, x, hp => by
    have hlt : o < ρ.length := blt_lt (by simpa [within] using hp)
    simp only [ren]
    constructor
    · intro h
      cases h with
      | row hl hn hv => exact .row (E.i2 o hlt) (by rw [E.rlen o hlt]; exact hn) (by rw [E.rowv o hlt]; exact hv)
      | rowold hl hn => exact .rowold (E.i2 o hlt) (by rw [E.rlen o hlt]; exact hn)
    · intro h
      cases h with
      | row hl hn hv => exact .row (E.i1 o hlt) (by rw [← E.rlen o hlt]; exact hn) (by rw [← E.rowv o hlt]; exact hv)
      | rowold hl hn => exact .rowold (E.i1 o hlt) (by rw [← E.rlen o hlt]; exact hn)
  | .rptr o n sz i off, x, hp => by
    have hlt : o < ρ.length := blt_lt (by simpa [within] using hp)
    simp only [ren]
    constructor
    · intro h
      cases h with
      | rptr hl hn hv => exact .rptr (E.i2 o hlt) (by rw [E.rlen o hlt]; exact hn) (by rw [E.rowv o hlt]; exact hv)
      | rptrold hl hn => exact .rptrold (E.i2 o hlt) (by rw [E.rlen o hlt]; exact hn)
    · intro h
      cases h with
      | rptr hl hn hv => exact .rptr (E.i1 o hlt) (by rw [← E.rlen o hlt]; exact hn) (by rw [← E.rowv o hlt]; exact hv)
      | rptrold hl hn => exact .rptrold (E.i1 o hlt) (by rw [← E.rlen o hlt]; exact hn)
  | .vw o n sz lo hi, x, hp => by
    have hlt : o < ρ.length := blt_lt (by simpa [within] using hp)
    simp only [ren]
    constructor
    · intro h
      cases h with
      | vw hl hn hv h1 h2 h3 h4 => exact .vw (E.i2 o hlt) (by rw [E.rlen o hlt]; exact hn) (by rw [E.rowv o hlt]; exact hv) h1 h2 h3 h4
      | vwold hl hn => exact .vwold (E.i2 o hlt) (by rw [E.rlen o hlt]; exact hn)
    · intro h
      cases h with
      | vw hl hn hv h1 h2 h3 h4 => exact .vw (E.i1 o hlt) (by rw [← E.rlen o hlt]; exact hn) (by rw [← E.rowv o hlt]; exact hv) h1 h2 h3 h4
      | vwold hl hn => exact .vwold (E.i1 o hlt) (by rw [← E.rlen o hlt]; exact hn)
  | .mp o, x, hp => by
    have hlt : o < ρ.length := blt_lt (by simpa [within] using hp)
    simp only [ren]
    constructor
    · intro h; cases h with | mp hl => rw [← E.blk o hlt]; exact .mp (E.i2 o hlt)
    · intro h; cases h with | mp hl => rw [E.blk o hlt]; exact .mp (E.i1 o hlt)
  | .eptr cs, x, _ => ⟨fun h => by cases h with | eptr a vals hF ha hcell hrep => exact .eptr a vals hF ha hcell hrep, fun h => by simp only [ren] at h; cases h with | eptr a vals hF ha hcell hrep => exact .eptr a vals hF ha hcell hrep⟩
  | .fn f as bs, x, hp => by
    simp only [within, Bool.and_eq_true] at hp
    simp only [ren]
    constructor
    · intro h
      cases h with
      | @fn _ _ _ _ fs cs h1 h2 r1 r2 => exact .fn (by rw [h1, rens_length]) (by rw [h2, rens_length]) ((reps_ren E as _ hp.1).1 r1) ((reps_ren E bs _ hp.2).1 r2)
    · intro h
      cases h with
      | @fn _ _ _ _ fs cs h1 h2 r1 r2 => exact .fn (by rw [h1, rens_length]) (by rw [h2, rens_length]) ((reps_ren E as _ hp.1).2 r1) ((reps_ren E bs _ hp.2).2 r2)
  | .ifc t y, x, hp => by
    simp only [ren]
    have := fun z => rep_ren E y z (by simpa [within] using hp)
    constructor
    · intro h; obtain ⟨z, rfl, hz⟩ := h.ifc_inv; exact .ifc ((this z).1 hz)
    · intro h; obtain ⟨z, rfl, hz⟩ := h.ifc_inv; exact .ifc ((this z).2 hz)
  | .agg cs, x, hp => by
    simp only [ren]
    constructor
    · intro h; obtain ⟨vs, rfl, h1, h2⟩ := h.agg_inv; exact .agg (by rw [h1, rens_length]) ((reps_ren E cs _ (by simpa [within] using hp)).1 h2)
    · intro h; obtain ⟨vs, rfl, h1, h2⟩ := h.agg_inv; exact .agg (by rw [h1, rens_length]) ((reps_ren E cs _ (by simpa [within] using hp)).2 h2)
  | .tup cs, x, hp => by
    simp only [ren]
    constructor
    · intro h; obtain ⟨vs, rfl, h1, h2⟩ := h.tup_inv; exact .tup (by rw [h1, rens_length]) ((reps_ren E cs _ (by simpa [within] using hp)).1 h2)
    · intro h; obtain ⟨vs, rfl, h1, h2⟩ := h.tup_inv; exact .tup (by rw [h1, rens_length]) ((reps_ren E cs _ (by simpa [within] using hp)).2 h2)
  | .dead, x, _ => ⟨fun _ => .dead, fun _ => .dead⟩
theorem reps_ren (E : EnvRn ρ e1 e2) : ∀ (cs : List AV) (f : Nat → Value), withins ρ.length cs = true → ((∀ (j : Nat) s, cs[j]? = some s → Rep w F e1 s (f j)) ↔ ∀ (j : Nat) s, (rens ρ cs)[j]? = some s → Rep w F e2 s (f j))
  | [], f, _ => ⟨fun _ j s hj => by simp [rens] at hj, fun _ j s hj => by simp at hj⟩
  | c :: r, f, hp => by
    simp only [withins, Bool.and_eq_true] at hp
    have h1 := rep_ren E c (f 0) hp.1
    have h2 := reps_ren E r (fun j => f (j + 1)) hp.2
    constructor
    · intro h j s hj
      cases j with
      | zero => simp [rens] at hj; subst hj; exact h1.1 (h 0 c rfl)
      | succ j => exact h2.1 (fun j s hj => h (j + 1) s (by simpa using hj)) j s (by simpa [rens] using hj)
    · intro h j s hj
      cases j with
      | zero => simp at hj; subst hj; exact h1.2 (h 0 _ rfl)
      | succ j => exact h2.2 (fun j s hj => h (j + 1) s (by simpa [rens] using hj)) j s (by simpa using hj)
end

theorem memB_iff {l : List Nat} {o : Nat} : memB l o = true ↔ o ∈ l := by
  unfold memB
  rw [List.any_eq_true]
  constructor
  · rintro ⟨x, hx, h⟩; have := Nat.eq_of_beq_eq_true h; subst this; exact hx
  · intro h; exact ⟨o, h, by simp⟩
theorem distinct_inj : ∀ {l : List Nat}, distinct l = true → ∀ (i j : Nat) o, l[i]? = some o → l[j]? = some o → i = j
  | [], _, i, j, o, hi, _ => by simp at hi
  | a :: r, h, i, j, o, hi, hj => by
    simp only [distinct, Bool.and_eq_true] at h
    have hn : a ∉ r := by
      intro ha
      have := memB_iff.2 ha
      rw [this] at h
      simp at h
    cases i with
    | zero =>
      cases j with
      | zero => rfl
      | succ j => simp at hi hj; subst hi; exact absurd (List.mem_of_getElem? hj) hn
    | succ i =>
      cases j with
      | zero => simp at hi hj; subst hj; exact absurd (List.mem_of_getElem? hi) hn
      | succ j => simp at hi hj; rw [distinct_inj h.2 i j o hi hj]
theorem allLt_get {n : Nat} : ∀ {l : List Nat}, allLt n l = true → ∀ (i : Nat) o, l[i]? = some o → o < n
  | [], _, i, o, hi => by simp at hi
  | a :: r, h, i, o, hi => by
    simp only [allLt, Bool.and_eq_true] at h
    cases i with
    | zero => simp at hi; subst hi; exact blt_lt h.1
    | succ i => exact allLt_get h.2 i o (by simpa using hi)
theorem getObs_get : ∀ {l : List Nat} {H0 : List Ob}, getObs H l = somes H0 → ∀ (i : Nat) o, l[i]? = some o → ∃ x, H0[i]? = some x ∧ H[o]? = some x
  | [], _, _, i, o, hi => by simp at hi
  | a :: r, [], h, i, o, hi => by simp [getObs, somes] at h
  | a :: r, x :: s, h, i, o, hi => by
    simp only [getObs, somes, List.cons.injEq] at h
    cases i with
    | zero => simp at hi; subst hi; exact ⟨x, rfl, h.1⟩
    | succ i => exact getObs_get h.2 i o (by simpa using hi)
theorem putObs_length : ∀ (l : List Nat) (L H : List Ob), (putObs l L H).length = H.length
  | [], L, H => by cases L <;> simp [putObs]
  | a :: r, [], H => rfl
  | a :: r, x :: s, H => by simp [putObs, putObs_length r s]
theorem putObs_other : ∀ (l : List Nat) (L H : List Ob) (o : Nat), o ∉ l → (putObs l L H)[o]? = H[o]?
  | [], L, H, o, _ => by cases L <;> simp [putObs]
  | a :: r, [], H, o, _ => rfl
  | a :: r, x :: s, H, o, h => by
    simp only [List.mem_cons, not_or] at h
    rw [putObs, putObs_other r s _ o h.2, List.getElem?_set_ne (Ne.symm h.1)]
theorem putObs_get : ∀ (l : List Nat) (L H : List Ob) (i : Nat) o x, distinct l = true → allLt H.length l = true → l[i]? = some o → L[i]? = some x → (putObs l L H)[o]? = some x
  | [], L, H, i, o, x, _, _, hi, _ => by simp at hi
  | a :: r, [], H, i, o, x, _, _, _, hx => by simp at hx
  | a :: r, y :: s, H, i, o, x, hd, hl, hi, hx => by
    have hd0 := hd
    simp only [distinct, Bool.and_eq_true] at hd
    simp only [allLt, Bool.and_eq_true] at hl
    have hn : a ∉ r := by
      intro ha
      have := memB_iff.2 ha
      rw [this] at hd
      simp at hd
    cases i with
    | zero =>
      simp at hi hx
      subst hi hx
      rw [putObs, putObs_other r s _ _ hn, List.getElem?_set_self (blt_lt hl.1)]
    | succ i => exact putObs_get r s _ i o x hd.2 (by simpa using hl.2) (by simpa using hi) (by simpa using hx)
theorem renH_get : ∀ (H : List Ob) (i : Nat) x, H[i]? = some x → (renH ρ H)[i]? = some (renO ρ x)
  | [], i, x, h => by simp at h
  | a :: r, i, x, h => by
    cases i with
    | zero => simp at h; subst h; rfl
    | succ i => exact renH_get r i x (by simpa using h)
theorem renH_length : ∀ (H : List Ob), (renH ρ H).length = H.length
  | [] => rfl
  | a :: r => by simp [renH, renH_length r]
theorem somes_length : ∀ (H : List Ob), (somes H).length = H.length
  | [] => rfl
  | a :: r => by simp [somes, somes_length r]
theorem getObs_length : ∀ (l : List Nat), (getObs H l).length = l.length
  | [] => rfl
  | a :: r => by simp [getObs, getObs_length r]

theorem CallP.use {g : FuncId} {H0 L : List Ob} {args0 : List AV} {R : AV} (h : CallP P g H0 args0 fun r H' => r = R ∧ H'.take L.length = L) {H : List Ob} {args : List AV} {K : AV → List Ob → Prop} (ρ : List Nat)
    (hd : distinct ρ = true) (hl : allLt H.length ρ = true) (hL : L.length = ρ.length) (hH : getObs H ρ = somes (renH ρ H0)) (ha : rens ρ args0 = args)
    (w1 : withins ρ.length args0 = true) (w2 : withinObs ρ.length H0 = true) (w3 : within ρ.length R = true) (w4 : withinObs ρ.length L = true)
    (hk : K (ren ρ R) (putObs ρ (renH ρ L) H)) : CallP P g H args K := by
  refine ⟨h.call, fun C w F e vs M hr => ?_⟩
  have hlen0 : H0.length = ρ.length := by have := congrArg List.length hH; rw [getObs_length, somes_length, renH_length] at this; omega
  have rnof : ∀ i, i < ρ.length → ρ[i]? = some (rn ρ i) := by
    intro i hi
    unfold rn
    rw [List.getElem?_eq_getElem hi]
  have rnlt : ∀ i, i < ρ.length → rn ρ i < e.len := by
    intro i hi
    rw [M.heap.len]
    exact allLt_get hl i _ (rnof i hi)
  have rninj : ∀ i j, i < ρ.length → j < ρ.length → rn ρ i = rn ρ j → i = j := by
    intro i j hi hj he
    exact distinct_inj hd i j _ (rnof i hi) (by rw [he]; exact rnof j hj)
  let e0 : Env := ⟨ρ.length, fun i => e.blk (rn ρ i), fun i => e.rlen (rn ρ i), fun i => e.rowv (rn ρ i)⟩
  have E0 : EnvRn ρ e0 e := ⟨fun i hi => hi, rnlt, fun _ _ => rfl, fun _ _ => rfl, fun _ _ => rfl⟩
  let C0 : Ctx := ⟨w, fun b => ∃ i, i < ρ.length ∧ Owner e H (rn ρ i) b, e0, F⟩
  have hob : ∀ i x, H0[i]? = some x → i < ρ.length ∧ H[rn ρ i]? = some (renO ρ x) := by
    intro i x hx
    have hi : i < ρ.length := by rw [← hlen0]; exact (List.getElem?_eq_some_iff.1 hx).1
    obtain ⟨y, hy, hz⟩ := getObs_get hH i _ (rnof i hi)
    rw [renH_get H0 i x hx] at hy
    injection hy with hy
    subst hy
    exact ⟨hi, hz⟩
  have hown0 : ∀ i b, Owner e0 H0 i b → i < ρ.length ∧ Owner e H (rn ρ i) b := by
    intro i b hb
    unfold Owner at hb ⊢
    cases hx : H0[i]? with
    | none => rw [hx] at hb; exact hb.elim
    | some x =>
      obtain ⟨hi, hz⟩ := hob i x hx
      rw [hx] at hb
      rw [hz]
      refine ⟨hi, ?_⟩
      cases x with
      | var T cs => exact hb
      | row el sz xs => exact hb
      | frz sz xs => exact hb
      | ext R => exact hb
      | gone => exact hb
  have M0 : Mem C0 H0 w F e0 := by
    refine ⟨⟨hlen0.symm, fun i x hx => ?_, fun i j b h1 h2 => ?_⟩, ⟨rfl, rfl, rfl, Nat.le_refl _, fun _ _ _ => rfl⟩, fun i b hb => .inr ⟨i, (hown0 i b hb).1, (hown0 i b hb).2⟩, fun _ h => h, M.bound, fun b hb => .inl hb, EnvLe.refl _, ⟨M.gw, fun b ⟨i, _, ho⟩ => M.gn ho⟩⟩
    · obtain ⟨hi, hz⟩ := hob i x hx
      have := M.heap.ob _ _ hz
      cases x with
      | var T cs =>
        obtain ⟨hF, us, h1, h2, h3⟩ := this
        exact ⟨hF, us, h1, by rw [h2, rens_length], (reps_ren (w := w) (F := F) E0 cs (fun j => us.getD j undef) (by have := withinObs_get w2 i _ hx; simpa [withinOb] using this)).2 h3⟩
      | row el sz xs => exact this
      | frz sz xs => exact this
      | ext R => exact this
      | gone => trivial
    · obtain ⟨i1, o1⟩ := hown0 i b h1
      obtain ⟨i2, o2⟩ := hown0 j b h2
      exact rninj i j i1 i2 (M.heap.one _ _ _ o1 o2)
  have hr0 : RepCells w F e0 args0 vs := by
    subst ha
    exact ⟨by rw [hr.1, rens_length], (reps_ren (w := w) (F := F) E0 args0 (fun j => vs.getD j undef) w1).2 hr.2⟩
  refine (h.run C0 w F e0 vs M0 hr0).mono ?_
  rintro en w' ⟨r, x, H', F', e1, rfl, ⟨rfl, hLt⟩, M1, hrep, hE, hLat⟩
  have hkl : ρ.length ≤ H'.length := by have := congrArg List.length hLt; rw [List.length_take] at this; omega
  rw [hL] at hLt
  have Mc : Mem C0 L w' F' (e1.cut ρ.length) := by
    have := M1.cut (m := ρ.length) hkl (Nat.le_refl _) (by rw [hLt]; exact w4)
    rwa [hLt] at this
  let pick {α : Type} (f g : Nat → α) : Nat → α := fun o => match ρ.findIdx? (fun k => k == o) with | some i => f i | none => g o
  have pick_rn : ∀ {α : Type} (f g : Nat → α) i, i < ρ.length → pick f g (rn ρ i) = f i := by
    intro α f g i hi
    have : ρ.findIdx? (fun k => k == rn ρ i) = some i := by
      rw [List.findIdx?_eq_some_iff_getElem]
      refine ⟨hi, ?_, fun j hj => ?_⟩
      · have := rnof i hi
        rw [List.getElem?_eq_getElem hi] at this
        injection this with this
        simp [this]
      · have h1 := rnof j (by omega)
        rw [List.getElem?_eq_getElem (by omega)] at h1
        injection h1 with h1
        intro h2
        simp only [beq_iff_eq] at h2
        rw [h1] at h2
        have := rninj j i (by omega) hi h2
        omega
    simp only [pick, this]
  have pick_no : ∀ {α : Type} (f g : Nat → α) o, o ∉ ρ → pick f g o = g o := by
    intro α f g o ho
    have : ρ.findIdx? (fun k => k == o) = none := by
      rw [List.findIdx?_eq_none_iff]
      intro k hk
      simp only [beq_eq_false_iff_ne]
      intro h; subst h; exact ho hk
    simp only [pick, this]
  have inρ : ∀ o, o ∈ ρ → ∃ i, i < ρ.length ∧ o = rn ρ i := by
    intro o ho
    obtain ⟨i, hi, rfl⟩ := List.getElem_of_mem ho
    refine ⟨i, hi, ?_⟩
    have := rnof i hi
    rw [List.getElem?_eq_getElem hi] at this
    injection this
  let e2 : Env := ⟨e.len, e.blk, pick e1.rlen e.rlen, pick e1.rowv e.rowv⟩
  have E2 : EnvRn ρ (e1.cut ρ.length) e2 := ⟨fun i hi => hi, rnlt, fun i hi => (hE.blk i hi).symm, fun i hi => pick_rn _ _ i hi, fun i hi => pick_rn _ _ i hi⟩
  have hEe : EnvLe e e2 := by
    refine ⟨Nat.le_refl _, fun _ _ => rfl, fun o ho => ?_⟩
    by_cases hm : o ∈ ρ
    · obtain ⟨i, hi, rfl⟩ := inρ o hm
      have := hE.row i hi
      show e.rlen (rn ρ i) < pick e1.rlen e.rlen (rn ρ i) ∨ (pick e1.rlen e.rlen (rn ρ i) = e.rlen (rn ρ i) ∧ pick e1.rowv e.rowv (rn ρ i) = e.rowv (rn ρ i))
      rw [pick_rn _ _ i hi, pick_rn _ _ i hi]
      exact this
    · exact .inr ⟨pick_no _ _ o hm, pick_no _ _ o hm⟩
  have hget : ∀ i x, i < ρ.length → L[i]? = some x → (putObs ρ (renH ρ L) H)[rn ρ i]? = some (renO ρ x) := fun i x hi hx =>
    putObs_get ρ _ H i _ _ hd hl (rnof i hi) (renH_get L i x hx)
  have hgetno : ∀ o, o ∉ ρ → (putObs ρ (renH ρ L) H)[o]? = H[o]? := fun o ho => putObs_other ρ _ H o ho
  have hown2 : ∀ i b, i < ρ.length → Owner e2 (putObs ρ (renH ρ L) H) (rn ρ i) b → Owner (e1.cut ρ.length) L i b := by
    intro i b hi hb
    obtain ⟨x, hx⟩ : ∃ x, L[i]? = some x := ⟨_, List.getElem?_eq_getElem (by omega)⟩
    unfold Owner at hb ⊢
    rw [hget i x hi hx] at hb
    rw [hx]
    cases x with
    | var T cs => have hb : e2.blk (rn ρ i) = b := hb; rw [E2.blk i hi] at hb; exact hb
    | row el sz xs => simp only [renO] at hb; rw [E2.rowv i hi] at hb; exact hb
    | frz sz xs => exact hb
    | ext R => have hb : e2.blk (rn ρ i) = b := hb; rw [E2.blk i hi] at hb; exact hb
    | gone => exact hb
  have hownno : ∀ o b, o ∉ ρ → Owner e2 (putObs ρ (renH ρ L) H) o b → Owner e H o b := by
    intro o b ho hb
    unfold Owner at hb ⊢
    rw [hgetno o ho] at hb
    cases hx : H[o]? with
    | none => rw [hx] at hb; exact hb.elim
    | some x =>
      rw [hx] at hb
      cases x with
      | var T cs => exact hb
      | row el sz xs =>
        obtain ⟨n, c, hv⟩ := hb
        exact ⟨n, c, by rw [← hv]; exact (pick_no _ _ o ho).symm⟩
      | frz sz xs => exact hb
      | ext R => exact hb
      | gone => exact hb
  have hnotown : ∀ o b, o ∉ ρ → Owner e H o b → ¬ ∃ i, i < ρ.length ∧ Owner e H (rn ρ i) b := by
    rintro o b ho h1 ⟨i, hi, h2⟩
    have := M.heap.one _ _ _ h1 h2
    subst this
    exact ho (List.mem_of_getElem? (rnof i hi))
  have M2 : Mem C (putObs ρ (renH ρ L) H) w' F' e2 := by
    refine ⟨⟨by rw [putObs_length]; exact M.heap.len, fun o y hy => ?_, fun o1 o2 b h1 h2 => ?_⟩, ⟨M1.mod.os.trans M.mod.os, M1.mod.tape.trans M.mod.tape, M1.mod.output.trans M.mod.output, Nat.le_trans M.mod.size M1.mod.size, fun b hb hn => ?_⟩, fun o b hb => ?_, fun b hb => M1.sub b (M.sub b hb), M1.bound, fun b hb => ?_, M.env.trans hEe, M.g⟩
    · by_cases hm : o ∈ ρ
      · obtain ⟨i, hi, rfl⟩ := inρ o hm
        obtain ⟨x, hx⟩ : ∃ x, L[i]? = some x := ⟨_, List.getElem?_eq_getElem (by omega)⟩
        rw [hget i x hi hx] at hy
        injection hy with hy
        subst hy
        have := Mc.heap.ob i x hx
        cases x with
        | var T cs =>
          obtain ⟨hF, us, h1, h2, h3⟩ := this
          refine ⟨by rw [E2.blk i hi]; exact hF, us, by rw [E2.blk i hi]; exact h1, by rw [h2, rens_length], (reps_ren (w := w') (F := F') E2 cs (fun j => us.getD j undef) (by have := withinObs_get w4 i _ hx; simpa [withinOb] using this)).1 h3⟩
        | row el sz xs => exact ⟨by rw [E2.rlen i hi]; exact this.1, by rw [E2.rowv i hi]; exact this.2⟩
        | frz sz xs => exact ⟨by rw [E2.rlen i hi]; exact this.1, this.2.1, by rw [E2.rowv i hi]; exact this.2.2⟩
        | ext R => exact ⟨by rw [E2.blk i hi]; exact this.1, by rw [E2.blk i hi]; exact this.2⟩
        | gone => trivial
      · rw [hgetno o hm] at hy
        have hlt : o < e.len := by rw [M.heap.len]; exact (List.getElem?_eq_some_iff.1 hy).1
        refine ObRep.keep hy hlt (M.heap.ob o y hy) hLat (fun b hb => ?_) hEe (pick_no _ _ o hm) (pick_no _ _ o hm) (fun b hb => M1.mod.block b (hb.lt M.heap) (hnotown o b hm hb))
        rcases M1.fresh b hb with h4 | h4 | h4
        · exact .inl h4
        · refine .inr fun h5 => ?_
          have h4 : w.heap.size ≤ b := h4
          have := h5.lt M.heap
          omega
        · exact .inr fun h5 => hnotown o b hm h5 h4
    · by_cases m1 : o1 ∈ ρ <;> by_cases m2 : o2 ∈ ρ
      · obtain ⟨i, hi, rfl⟩ := inρ o1 m1
        obtain ⟨j, hj, rfl⟩ := inρ o2 m2
        rw [Mc.heap.one _ _ _ (hown2 i b hi h1) (hown2 j b hj h2)]
      · obtain ⟨i, hi, rfl⟩ := inρ o1 m1
        have k2 := hownno o2 b m2 h2
        rcases Mc.ours _ _ (hown2 i b hi h1) with h4 | h4
        · have h4 : w.heap.size ≤ b := h4
          have := k2.lt M.heap; omega
        · exact absurd h4 (hnotown o2 b m2 k2)
      · obtain ⟨j, hj, rfl⟩ := inρ o2 m2
        have k1 := hownno o1 b m1 h1
        rcases Mc.ours _ _ (hown2 j b hj h2) with h4 | h4
        · have h4 : w.heap.size ≤ b := h4
          have := k1.lt M.heap; omega
        · exact absurd h4 (hnotown o1 b m1 k1)
      · exact M.heap.one _ _ _ (hownno o1 b m1 h1) (hownno o2 b m2 h2)
    · rw [M1.mod.block b (Nat.lt_of_lt_of_le hb M.mod.size) (fun ⟨i, _, h4⟩ => ?_)]
      · exact M.mod.block b hb hn
      · rcases M.ours _ _ h4 with h5 | h5
        · omega
        · exact hn h5
    · by_cases hm : o ∈ ρ
      · obtain ⟨i, hi, rfl⟩ := inρ o hm
        rcases Mc.ours _ _ (hown2 i b hi hb) with h4 | ⟨j, _, h4⟩
        · exact .inl (Nat.le_trans M.mod.size h4)
        · exact M.ours _ _ h4
      · exact M.ours _ _ (hownno o b hm hb)
    · rcases M1.fresh b hb with h4 | h4 | ⟨j, _, h4⟩
      · exact M.fresh b h4
      · exact .inr (.inl (Nat.le_trans M.mod.size h4))
      · rcases M.ours _ _ h4 with h5 | h5
        · exact .inr (.inl h5)
        · exact .inr (.inr h5)
  refine ⟨ren ρ r, x, _, F', e2, rfl, hk, M2, ?_, hEe, hLat⟩
  exact (rep_ren E2 r x w3).1 (within_cut r x w3 hrep)

/-- Objects in other places, others let go: object i of the new heap lies in place ρ i of the old one. -/
theorem weak_ren {S : St} {n b : Nat} {l : List (Nat × AV)} {H' : List Ob} (ρ : List Nat) (hn : S.n = n) (hb : S.base = b) (hd : distinct ρ = true) (hl : allLt S.heap.length ρ = true) (hb0 : ρ.take b = List.range b) (hbl : Nat.ble b ρ.length = true)
    (hH : getObs S.heap ρ = somes (renH ρ H')) (w2 : withinObs ρ.length H' = true) (wl : withins ρ.length (l.map (·.2)) = true) (hr : ∀ p ∈ l, S.regs p.1 = ren ρ p.2) : Weak S ⟨n, b, ofRegs l, H'⟩ := by
  refine ⟨fun C a w F e h => ?_⟩
  have M := h.mem
  have hble : b ≤ ρ.length := Nat.le_of_ble_eq_true hbl
  have hlen0 : H'.length = ρ.length := by have := congrArg List.length hH; rw [getObs_length, somes_length, renH_length] at this; omega
  have rnof : ∀ i, i < ρ.length → ρ[i]? = some (rn ρ i) := by
    intro i hi
    unfold rn
    rw [List.getElem?_eq_getElem hi]
  have rnlt : ∀ i, i < ρ.length → rn ρ i < e.len := by
    intro i hi
    rw [M.heap.len]
    exact allLt_get hl i _ (rnof i hi)
  have rninj : ∀ i j, i < ρ.length → j < ρ.length → rn ρ i = rn ρ j → i = j := by
    intro i j hi hj he
    exact distinct_inj hd i j _ (rnof i hi) (by rw [he]; exact rnof j hj)
  have rnbase : ∀ i, i < b → rn ρ i = i := by
    intro i hi
    have h1 := rnof i (by omega)
    have h2 : (ρ.take b)[i]? = ρ[i]? := List.getElem?_take_of_lt hi
    rw [hb0, List.getElem?_range hi] at h2
    rw [← h2] at h1
    injection h1 with h1
    exact h1.symm
  let e0 : Env := ⟨ρ.length, fun i => e.blk (rn ρ i), fun i => e.rlen (rn ρ i), fun i => e.rowv (rn ρ i)⟩
  have E0 : EnvRn ρ e0 e := ⟨fun i hi => hi, rnlt, fun _ _ => rfl, fun _ _ => rfl, fun _ _ => rfl⟩
  have hob : ∀ i x, H'[i]? = some x → i < ρ.length ∧ S.heap[rn ρ i]? = some (renO ρ x) := by
    intro i x hx
    have hi : i < ρ.length := by rw [← hlen0]; exact (List.getElem?_eq_some_iff.1 hx).1
    obtain ⟨y, hy, hz⟩ := getObs_get hH i _ (rnof i hi)
    rw [renH_get H' i x hx] at hy
    injection hy with hy
    subst hy
    exact ⟨hi, hz⟩
  have hown0 : ∀ i b, Owner e0 H' i b → i < ρ.length ∧ Owner e S.heap (rn ρ i) b := by
    intro i b hb
    unfold Owner at hb ⊢
    cases hx : H'[i]? with
    | none => rw [hx] at hb; exact hb.elim
    | some x =>
      obtain ⟨hi, hz⟩ := hob i x hx
      rw [hx] at hb
      rw [hz]
      refine ⟨hi, ?_⟩
      cases x with
      | var T cs => exact hb
      | row el sz xs => exact hb
      | frz sz xs => exact hb
      | ext R => exact hb
      | gone => exact hb
  have hbase : C.e0.len = b := by rw [← hb]; exact h.base
  refine ⟨F, e0, h.defers, h.size.trans hn, hbase, fun t => ?_, ⟨⟨hlen0.symm, fun i x hx => ?_, fun i j k h1 h2 => ?_⟩, M.mod, fun i k hk => M.ours _ _ (hown0 i k hk).2, M.sub, M.bound, M.fresh, ⟨?_, fun o ho => ?_, fun o ho => ?_⟩, M.g⟩⟩
  · have hsc : ∀ p ∈ l, within ρ.length p.2 = true := by
      clear hr
      induction l with
      | nil => intro p hp; cases hp
      | cons q r ih =>
        intro p hp
        simp only [List.map_cons, withins, Bool.and_eq_true] at wl
        rcases List.mem_cons.1 hp with rfl | hp
        · exact wl.1
        · exact ih wl.2 p hp
    rcases ofRegs_cases l t with h1 | ⟨p, hp, rfl, h2⟩
    · simp only; rw [h1]; exact .dead
    · simp only; rw [h2]
      refine (rep_ren E0 p.2 _ (hsc p hp)).2 ?_
      rw [← hr p hp]
      exact h.regs p.1
  · obtain ⟨hi, hz⟩ := hob i x hx
    have := M.heap.ob _ _ hz
    cases x with
    | var T cs =>
      obtain ⟨hF, us, h1, h2, h3⟩ := this
      exact ⟨hF, us, h1, by rw [h2, rens_length], (reps_ren (w := w) (F := F) E0 cs (fun j => us.getD j undef) (by have := withinObs_get w2 i _ hx; simpa [withinOb] using this)).2 h3⟩
    | row el sz xs => exact this
    | frz sz xs => exact this
    | ext R => exact this
    | gone => trivial
  · obtain ⟨i1, o1⟩ := hown0 i k h1
    obtain ⟨i2, o2⟩ := hown0 j k h2
    exact rninj i j i1 i2 (M.heap.one _ _ _ o1 o2)
  · show C.e0.len ≤ ρ.length
    omega
  · show e.blk (rn ρ o) = C.e0.blk o
    rw [rnbase o (by omega)]; exact M.env.blk o ho
  · show C.e0.rlen o < e.rlen (rn ρ o) ∨ (e.rlen (rn ρ o) = C.e0.rlen o ∧ e.rowv (rn ρ o) = C.e0.rowv o)
    rw [rnbase o (by omega)]; exact M.env.row o ho

/-- What is asked of the registers. -/
def RenRs (S : St) (ρ : List Nat) : List (Nat × AV) → Prop
  | [] => True
  | p :: r => S.regs p.1 = ren ρ p.2 ∧ RenRs S ρ r
theorem RenRs.get {S : St} {ρ : List Nat} : ∀ {l : List (Nat × AV)}, RenRs S ρ l → ∀ p ∈ l, S.regs p.1 = ren ρ p.2
  | [], _, p, hp => by cases hp
  | q :: r, h, p, hp => by
    rcases List.mem_cons.1 hp with rfl | hp
    · exact h.1
    · exact RenRs.get h.2 p hp

end
end Go.Ab

/- A variable that is an array becomes a row that is ours; rounds of a loop told one by one. -/
namespace Go.Ab
set_option linter.unusedVariables false
set_option linter.unusedSimpArgs false
section
variable {P : Program} {C : Ctx} {S : St} {a : Act} {H : List Ob} {w : World} {F : Nat → Prop} {e : Env}

theorem Mem.pushOwn (M : Mem C H w F e) {el sz : Nat} {xs : List (List AV)} {x : Value} (hr : OwnRow w F el sz xs x) (hb : ∀ n c b, x = .slice (some ⟨b, 0, none⟩) n c → (∀ o, ¬ Owner e H o b) ∧ (C.w0.heap.size ≤ b ∨ C.own0 b)) :
    Mem C (H ++ [.row el sz xs]) w F (e.pushRow xs.length x) := by
  have hlen := M.heap.len
  have E := EnvLe.pushRow e xs.length x
  have h1 : (e.pushRow xs.length x).rlen H.length = xs.length := by simp only [Env.pushRow]; rw [← hlen]; exact upd_same _ _ _
  have h2 : (e.pushRow xs.length x).rowv H.length = x := by simp only [Env.pushRow]; rw [← hlen]; exact upd_same _ _ _
  have hlt : ∀ o b, Owner e H o b → o < H.length := by
    intro o b h
    unfold Owner at h
    cases hg : H[o]? with
    | none => rw [hg] at h; exact h.elim
    | some y => exact (List.getElem?_eq_some_iff.1 hg).1
  have old : ∀ o b, o < H.length → (Owner (e.pushRow xs.length x) (H ++ [.row el sz xs]) o b ↔ Owner e H o b) := by
    intro o b ho
    unfold Owner
    rw [List.getElem?_append_left ho]
    have e1 : (e.pushRow xs.length x).blk o = e.blk o := E.blk o (by omega)
    have e2 : (e.pushRow xs.length x).rowv o = e.rowv o := by simp only [Env.pushRow]; exact upd_other _ _ _ (by omega)
    cases H[o]? with
    | none => simp
    | some y => cases y <;> simp [e1, e2]
  have new : ∀ b, Owner (e.pushRow xs.length x) (H ++ [.row el sz xs]) H.length b → ∃ n c, x = .slice (some ⟨b, 0, none⟩) n c := by
    intro b h
    unfold Owner at h
    simp at h
    rw [h2] at h
    exact h
  have bound : ∀ o b, Owner (e.pushRow xs.length x) (H ++ [.row el sz xs]) o b → o < H.length ∨ o = H.length := by
    intro o b h
    unfold Owner at h
    cases hg : (H ++ [Ob.row el sz xs])[o]? with
    | none => rw [hg] at h; exact h.elim
    | some y =>
      have := (List.getElem?_eq_some_iff.1 hg).1
      simp at this
      omega
  refine ⟨⟨by simp [Env.pushRow, hlen], fun o y hy => ?_, fun o o' b ho ho' => ?_⟩, M.mod, fun o b ho => ?_, M.sub, M.bound, M.fresh, M.env.trans E, M.g⟩
  · rcases Nat.lt_or_ge o H.length with hlo | hge
    · rw [List.getElem?_append_left hlo] at hy
      exact ObRep.keep hy (by omega) (M.heap.ob o y hy) (Later.refl w F) (fun b hb => .inl hb) E (by simp only [Env.pushRow]; exact upd_other _ _ _ (by omega)) (by simp only [Env.pushRow]; exact upd_other _ _ _ (by omega)) (fun b hb => rfl)
    · have : o = H.length := by
        have := (List.getElem?_eq_some_iff.1 hy).1
        simp at this
        omega
      subst this
      simp at hy
      subst hy
      exact ⟨h1, by rw [h2]; exact hr⟩
  · rcases bound o b ho with h | h <;> rcases bound o' b ho' with h' | h'
    · exact M.heap.one o o' b ((old o b h).1 ho) ((old o' b h').1 ho')
    · subst h'
      obtain ⟨n, c, hx⟩ := new b ho'
      exact absurd ((old o b h).1 ho) ((hb n c b hx).1 o)
    · subst h
      obtain ⟨n, c, hx⟩ := new b ho
      exact absurd ((old o' b h').1 ho') ((hb n c b hx).1 o')
    · omega
  · rcases bound o b ho with h | h
    · exact M.ours o b ((old o b h).1 ho)
    · subst h
      obtain ⟨n, c, hx⟩ := new b ho
      exact (hb n c b hx).2

/-- A variable that is an array of one cell each becomes a row of ours; the register that points to it points to the row. -/
theorem weak_arr (t o T n : Nat) (cs : List AV) (ht : S.regs t = .ptr o 0) (ho : S.heap[o]? = some (.var T cs)) (h1 : ones cs = true) (hv : withins 0 cs = true) (hn : cs.length = n) (hmax : Nat.ble n 1000 = true) :
    Weak S ⟨S.n, S.base, upd S.regs t (.rptr S.heap.length n 1 0 0), S.heap.set o .gone ++ [.row T 1 (cs.map fun s => [s])]⟩ := by
  subst hn
  refine ⟨fun C a w F e h => ?_⟩
  have hlo : o < S.heap.length := (List.getElem?_eq_some_iff.1 ho).1
  obtain ⟨hF, vs, hblk, hsz, hrep⟩ := h.mem.heap.ob o _ ho
  have hown : Owner e S.heap o (e.blk o) := by unfold Owner; rw [ho]
  have hrow : OwnRow w F T 1 (cs.map fun s => [s]) (.slice (some ⟨e.blk o, 0, none⟩) cs.length cs.length) := by
    refine ⟨fun i x hx => ?_, .inr ⟨e.blk o, cs.length, vs, by rw [List.length_map], hF, hblk, by omega, by rw [List.length_map]; exact Nat.le_refl _, by have := Nat.le_of_ble_eq_true hmax; unfold maxLen; omega, fun i x j s hx hj => ?_⟩⟩
    · rw [List.getElem?_map] at hx
      cases hg : cs[i]? with
      | none => rw [hg] at hx; cases hx
      | some s =>
        rw [hg] at hx
        injection hx with hx
        subst hx
        refine ⟨rfl, ?_⟩
        have := List.all_eq_true.1 h1 s (List.mem_of_getElem? hg)
        simp [ones, this]
    · rw [List.getElem?_map] at hx
      cases hg : cs[i]? with
      | none => rw [hg] at hx; cases hx
      | some s' =>
        rw [hg] at hx
        injection hx with hx
        subst hx
        have hj0 : j = 0 := by
          have := (List.getElem?_eq_some_iff.1 hj).1
          simpa using this
        subst hj0
        simp at hj
        subst hj
        have hi : i < cs.length := (List.getElem?_eq_some_iff.1 hg).1
        refine ⟨vs.getD i undef, ?_, ?_⟩
        · rw [Nat.mul_one, Nat.add_zero]; exact getElem?_of_getD (by omega)
        · exact (withins_cut (m := 0) cs (fun j => vs.getD j undef) hv hrep i s' hg).mono (Later.refl w F) ⟨Nat.le_refl 0, fun _ h => absurd h (Nat.not_lt_zero _), fun _ h => absurd h (Nat.not_lt_zero _)⟩
  have M1 := h.mem.letgo o
  have M := M1.pushOwn hrow (fun n c b hx => by
    injection hx with hx _ _
    injection hx with hx
    injection hx with hx _ _
    subst hx
    refine ⟨fun o' ho' => ?_, h.mem.ours o _ hown⟩
    unfold Owner at ho'
    rw [List.getElem?_set] at ho'
    by_cases hoo : o = o'
    · rw [if_pos hoo] at ho'
      rw [if_pos (by first | exact hlo | omega)] at ho'
      exact ho'.elim
    · rw [if_neg hoo] at ho'
      exact hoo (h.mem.heap.one o o' _ hown ho'))
  rw [List.length_map] at M
  refine ⟨F, e.pushRow cs.length (.slice (some ⟨e.blk o, 0, none⟩) cs.length cs.length), h.defers, h.size, h.base, fun s => ?_, M⟩
  simp only
  by_cases hs : s = t
  · subst hs
    rw [upd_same]
    have hv := h.regs s
    rw [ht] at hv
    obtain ⟨_, hv⟩ := hv.ptr_inv
    rw [hv]
    have hlen := h.mem.heap.len
    have hlt : S.heap.length < (e.pushRow cs.length (.slice (some ⟨e.blk o, 0, none⟩) cs.length cs.length)).len := by show S.heap.length < e.len + 1; rw [hlen]; omega
    have := Rep.rptr (w := w) (F := F) (e := e.pushRow cs.length (.slice (some ⟨e.blk o, 0, none⟩) cs.length cs.length)) (o := S.heap.length) (n := cs.length) (sz := 1) (i := 0) (off := 0) (b := e.blk o) (m := cs.length) (c := cs.length) hlt
      (by simp only [Env.pushRow]; rw [← hlen, upd_same]) (by simp only [Env.pushRow]; rw [← hlen, upd_same])
    simpa using this
  · rw [upd_other _ _ _ hs]
    exact (h.regs s).mono (Later.refl w F) (EnvLe.pushRow e _ _)
end

/-! ### Rounds, one by one -/
structure TriL (P : Program) (c : Code) (Q : Exit → St → Prop) (n : Nat) (S : St) : Prop where
  out : ∀ C a w F e, Sat C S a w F e → Code.rounds P c (fun x a' w' => ∃ S' F' e', Q x S' ∧ Sat C S' a' w' F' e') n a w
theorem Tri.rounds {P : Program} {c : Code} {Q : Exit → St → Prop} {S : St} (n : Nat) (h : TriL P c Q n S) : Tri P (.loop c) S Q :=
  ⟨fun C a w F e hs => wp_loop_rounds n (h.out C a w F e hs)⟩
theorem TriL.step {P : Program} {c : Code} {Q : Exit → St → Prop} {S : St} {n : Nat} (h : Tri P c S fun x S' => match x with | .normal => TriL P c Q n S' | x => Q x S') : TriL P c Q (n + 1) S := by
  refine ⟨fun C a w F e hs => ?_⟩
  rw [rounds_succ]
  refine wp_mono (h.out C a w F e hs) ?_
  rintro ex a' w' ⟨S', F', e', hq, hs'⟩
  cases ex with
  | normal => exact hq.out C a' w' F' e' hs'
  | _ => exact ⟨S', F', e', hq, hs'⟩
end Go.Ab

/- Values without memory: what they are in the machine; and calls over such values, told once for every world. -/
namespace Go.Ab
set_option linter.unusedVariables false
set_option linter.unusedSimpArgs false

mutual
def conc : AV → Option Value
  | .v x => some x
  | .ifc t x => (match conc x with | some y => some (.iface t y) | none => none)
  | .agg cs => (match concs cs with | some l => some (.agg l.toArray) | none => none)
  | .tup cs => (match concs cs with | some l => some (.tuple l.toArray) | none => none)
  | .sl _ => none
  | .ptr _ _ => none
  | .row _ _ => none
  | .rptr _ _ _ _ _ => none
  | .vw _ _ _ _ _ => none
  | .eptr _ => none
  | .mp _ => none
  | .fn _ _ _ => none
  | .dead => none
def concs : List AV → Option (List Value)
  | [] => some []
  | a :: r => (match conc a, concs r with | some x, some l => some (x :: l) | _, _ => none)
end

section
variable {w : World} {F : Nat → Prop} {e : Env}
theorem concs_cons {a : AV} {r : List AV} {l : List Value} (h : concs (a :: r) = some l) : ∃ x l', l = x :: l' ∧ conc a = some x ∧ concs r = some l' := by
  unfold concs at h
  split at h
  · rename_i x l' h1 h2
    injection h with h
    exact ⟨x, l', h.symm, h1, h2⟩
  · cases h
theorem list_of_cells (cs : List AV) (vs : Array Value) (l : List Value) (hs : vs.size = cs.length) (hl : l.length = cs.length) (h : ∀ (j : Nat), j < cs.length → vs.getD j undef = l.getD j undef) : vs = l.toArray := by
  apply Array.ext
  · simp [hs, hl]
  · intro i h1 h2
    have := h i (by omega)
    rw [Array.getD_eq_getD_getElem?, Array.getElem?_eq_getElem h1] at this
    simp only [Option.getD_some] at this
    rw [this]
    simp at h2
    simp [h2]
mutual
theorem conc_inv : ∀ (a : AV) (x v : Value), Rep w F e a x → conc a = some v → x = v
  | .v y, x, v, h, hc => by
    have := h.v_inv
    unfold conc at hc
    injection hc with hc
    rw [this, hc]
  | .ifc t s, x, v, h, hc => by
    obtain ⟨y, rfl, hr⟩ := h.ifc_inv
    unfold conc at hc
    split at hc
    · rename_i z hz
      injection hc with hc
      rw [← hc, conc_inv s y z hr hz]
    · cases hc
  | .agg cs, x, v, h, hc => by
    obtain ⟨vs, rfl, h1, h2⟩ := h.agg_inv
    unfold conc at hc
    split at hc
    · rename_i l hl
      injection hc with hc
      obtain ⟨h3, h4⟩ := concs_inv cs (fun j => vs.getD j undef) l h2 hl
      rw [← hc, list_of_cells cs vs l h1 h3 h4]
    · cases hc
  | .tup cs, x, v, h, hc => by
    obtain ⟨vs, rfl, h1, h2⟩ := h.tup_inv
    unfold conc at hc
    split at hc
    · rename_i l hl
      injection hc with hc
      obtain ⟨h3, h4⟩ := concs_inv cs (fun j => vs.getD j undef) l h2 hl
      rw [← hc, list_of_cells cs vs l h1 h3 h4]
    · cases hc
  | .sl _, x, v, h, hc => by unfold conc at hc; cases hc
  | .ptr _ _, x, v, h, hc => by unfold conc at hc; cases hc
  | .row _ _, x, v, h, hc => by unfold conc at hc; cases hc
  | .rptr _ _ _ _ _, x, v, h, hc => by unfold conc at hc; cases hc
  | .vw _ _ _ _ _, x, v, h, hc => by unfold conc at hc; cases hc
  | .eptr _, x, v, h, hc => by unfold conc at hc; cases hc
  | .mp _, x, v, h, hc => by unfold conc at hc; cases hc
  | .fn _ _ _, x, v, h, hc => by unfold conc at hc; cases hc
  | .dead, x, v, h, hc => by unfold conc at hc; cases hc
theorem concs_inv : ∀ (cs : List AV) (f : Nat → Value) (l : List Value), (∀ (j : Nat) s, cs[j]? = some s → Rep w F e s (f j)) → concs cs = some l → l.length = cs.length ∧ ∀ (j : Nat), j < cs.length → f j = l.getD j undef
  | [], f, l, h, hc => by
    unfold concs at hc
    injection hc with hc
    subst hc
    exact ⟨rfl, fun j hj => absurd hj (by simp)⟩
  | a :: r, f, l, h, hc => by
    obtain ⟨x, l', rfl, h1, h2⟩ := concs_cons hc
    obtain ⟨h3, h4⟩ := concs_inv r (fun j => f (j + 1)) l' (fun j s hj => h (j + 1) s (by simpa using hj)) h2
    refine ⟨by simp [h3], fun j hj => ?_⟩
    cases j with
    | zero => simpa using conc_inv a (f 0) x (h 0 a rfl) h1
    | succ j => simpa using h4 j (by simpa using hj)
end
mutual
theorem conc_rep : ∀ (a : AV) (v : Value), conc a = some v → Rep w F e a v
  | .v y, v, hc => by
    unfold conc at hc
    injection hc with hc
    subst hc; exact .v
  | .ifc t s, v, hc => by
    unfold conc at hc
    split at hc
    · rename_i z hz
      injection hc with hc
      subst hc
      exact .ifc (conc_rep s z hz)
    · cases hc
  | .agg cs, v, hc => by
    unfold conc at hc
    split at hc
    · rename_i l hl
      injection hc with hc
      subst hc
      obtain ⟨h1, h2⟩ := concs_rep cs l hl
      exact .agg (by simp [h1]) (fun j s hj => by simpa [Array.getD_eq_getD_getElem?] using h2 j s hj)
    · cases hc
  | .tup cs, v, hc => by
    unfold conc at hc
    split at hc
    · rename_i l hl
      injection hc with hc
      subst hc
      obtain ⟨h1, h2⟩ := concs_rep cs l hl
      exact .tup (by simp [h1]) (fun j s hj => by simpa [Array.getD_eq_getD_getElem?] using h2 j s hj)
    · cases hc
  | .sl _, v, hc => by unfold conc at hc; cases hc
  | .ptr _ _, v, hc => by unfold conc at hc; cases hc
  | .row _ _, v, hc => by unfold conc at hc; cases hc
  | .rptr _ _ _ _ _, v, hc => by unfold conc at hc; cases hc
  | .vw _ _ _ _ _, v, hc => by unfold conc at hc; cases hc
  | .eptr _, v, hc => by unfold conc at hc; cases hc
  | .mp _, v, hc => by unfold conc at hc; cases hc
  | .fn _ _ _, v, hc => by unfold conc at hc; cases hc
  | .dead, v, hc => by unfold conc at hc; cases hc
theorem concs_rep : ∀ (cs : List AV) (l : List Value), concs cs = some l → l.length = cs.length ∧ ∀ (j : Nat) s, cs[j]? = some s → Rep w F e s (l.getD j undef)
  | [], l, hc => by
    unfold concs at hc
    injection hc with hc
    subst hc
    exact ⟨rfl, fun j s hj => by simp at hj⟩
  | a :: r, l, hc => by
    obtain ⟨x, l', rfl, h1, h2⟩ := concs_cons hc
    obtain ⟨h3, h4⟩ := concs_rep r l' h2
    refine ⟨by simp [h3], fun j s hj => ?_⟩
    cases j with
    | zero =>
      simp at hj
      subst hj
      simpa using conc_rep a x h1
    | succ j => simpa using h4 j s (by simpa using hj)
end

/-- A call over values without memory, that leaves the world as it is. -/
theorem pureClosed {P : Program} {g : FuncId} {args : List AV} {l : List Value} {r : AV} {v : Value} (hc : Callable P g) (ha : concs args = some l) (hr : conc r = some v)
    (h : ∀ w, Calls P g l.toArray w fun en w' => en = .returned v ∧ Touch w w' (fun _ => False)) : PureP P g args (fun a => a = r) := by
  refine ⟨hc, fun w F vs hg hb hv => ?_⟩
  obtain ⟨h1, h2⟩ := hv
  obtain ⟨h3, h4⟩ := concs_inv args (fun j => vs.getD j undef) l h2 ha
  rw [list_of_cells args vs l h1 h3 h4]
  refine (h w).mono ?_
  rintro en w' ⟨rfl, T⟩
  exact ⟨r, v, F, rfl, rfl, conc_rep r v hr, fun _ h => h, fun _ h => .inl h, fun b h => Nat.lt_of_lt_of_le (hb b h) T.size, T⟩
end
end Go.Ab
