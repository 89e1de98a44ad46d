/- A call by a contract over a small heap: the caller's heap may have more, in whatever places. -/
import Derived.Test.YthhddlhgkejhbaaStAbsW
namespace Go.Ab
set_option linter.unusedVariables false
set_option linter.unusedSimpArgs false

/-- Object i of the small heap lies in the place that ρ tells. -/
def rn (ρ : List Nat) (i : Nat) : Nat := match ρ[i]? with | some o => o | none => i

mutual
def ren (ρ : List Nat) : AV → AV
  | .ptr o off => .ptr (rn ρ o) off
  | .row o n => .row (rn ρ o) n
  | .rptr o n sz i off => .rptr (rn ρ o) n sz i off
  | .vw o n sz lo hi => .vw (rn ρ o) n sz lo hi
  | .fn f a b => .fn f (rens ρ a) (rens ρ b)
  | .ifc t x => .ifc t (ren ρ x)
  | .agg cs => .agg (rens ρ cs)
  | .tup cs => .tup (rens ρ cs)
  | .v x => .v x
  | .sl xs => .sl xs
  | .eptr cs => .eptr cs
  | .dead => .dead
def rens (ρ : List Nat) : List AV → List AV
  | [] => []
  | a :: r => ren ρ a :: rens ρ r
end
def renO (ρ : List Nat) : Ob → Ob
  | .var T cs => .var T (rens ρ cs)
  | x => x
def renH (ρ : List Nat) : List Ob → List Ob
  | [] => []
  | a :: r => renO ρ a :: renH ρ r
/-- Objects put in their places. -/
def putObs : List Nat → List Ob → List Ob → List Ob
  | o :: r, x :: s, H => putObs r s (H.set o x)
  | _, _, H => H
/-- The objects of these places. -/
def getObs (H : List Ob) : List Nat → List (Option Ob)
  | [] => []
  | o :: r => H[o]? :: getObs H r
def somes : List Ob → List (Option Ob)
  | [] => []
  | a :: r => some a :: somes r
def distinct : List Nat → Bool
  | [] => true
  | o :: r => (match memB r o with | true => false | false => true) && distinct r
def allLt (n : Nat) : List Nat → Bool
  | [] => true
  | o :: r => Nat.blt o n && allLt n r

theorem rens_length (ρ : List Nat) : ∀ (cs : List AV), (rens ρ cs).length = cs.length
  | [] => rfl
  | c :: r => by simp [rens, rens_length ρ r]

structure EnvRn (ρ : List Nat) (e1 e2 : Env) : Prop where
  i1 : ∀ i, i < ρ.length → i < e1.len
  i2 : ∀ i, i < ρ.length → rn ρ i < e2.len
  blk : ∀ i, i < ρ.length → e2.blk (rn ρ i) = e1.blk i
  rlen : ∀ i, i < ρ.length → e2.rlen (rn ρ i) = e1.rlen i
  rowv : ∀ i, i < ρ.length → e2.rowv (rn ρ i) = e1.rowv i

section
variable {P : Program} {C : Ctx} {H H' : List Ob} {w w' : World} {F F' : Nat → Prop} {e e' e1 e2 : Env} {ρ : List Nat}

mutual
theorem rep_ren (E : EnvRn ρ e1 e2) : ∀ (s : AV) (x : Value), within ρ.length s = true → (Rep w F e1 s x ↔ Rep w F e2 (ren ρ s) x)
  | .v y, x, _ => ⟨fun h => by rw [h.v_inv]; exact .v, fun h => by rw [h.v_inv]; exact .v⟩
  | .sl xs, x, _ => ⟨fun h => by cases h with | sl sz a vals hc hA hsz hone hcell hrep => exact .sl sz a vals hc hA hsz hone hcell hrep, fun h => by simp only [ren] at h; cases h with | sl sz a vals hc hA hsz hone hcell hrep => exact .sl sz a vals hc hA hsz hone hcell hrep⟩
  | .ptr o off, x, hp => by
    have hlt : o < ρ.length := blt_lt (by simpa [within] using hp)
    simp only [ren]
    constructor
    · intro h; cases h with | ptr hl => rw [← E.blk o hlt]; exact .ptr (E.i2 o hlt)
    · intro h; obtain ⟨_, rfl⟩ := h.ptr_inv; rw [E.blk o hlt]; exact .ptr (E.i1 o hlt)
  | .row o n, x, hp => by
    have hlt : o < ρ.length := blt_lt (by simpa [within] using hp)
    simp only [ren]
    constructor
    · intro h
      cases h with
      | row hl hn hv => exact .row (E.i2 o hlt) (by rw [E.rlen o hlt]; exact hn) (by rw [E.rowv o hlt]; exact hv)
      | rowold hl hn => exact .rowold (E.i2 o hlt) (by rw [E.rlen o hlt]; exact hn)
    · intro h
      cases h with
      | row hl hn hv => exact .row (E.i1 o hlt) (by rw [← E.rlen o hlt]; exact hn) (by rw [← E.rowv o hlt]; exact hv)
      | rowold hl hn => exact .rowold (E.i1 o hlt) (by rw [← E.rlen o hlt]; exact hn)
  | .rptr o n sz i off, x, hp => by
    have hlt : o < ρ.length := blt_lt (by simpa [within] using hp)
    simp only [ren]
    constructor
    · intro h
      cases h with
      | rptr hl hn hv => exact .rptr (E.i2 o hlt) (by rw [E.rlen o hlt]; exact hn) (by rw [E.rowv o hlt]; exact hv)
      | rptrold hl hn => exact .rptrold (E.i2 o hlt) (by rw [E.rlen o hlt]; exact hn)
    · intro h
      cases h with
      | rptr hl hn hv => exact .rptr (E.i1 o hlt) (by rw [← E.rlen o hlt]; exact hn) (by rw [← E.rowv o hlt]; exact hv)
      | rptrold hl hn => exact .rptrold (E.i1 o hlt) (by rw [← E.rlen o hlt]; exact hn)
  | .vw o n sz lo hi, x, hp => by
    have hlt : o < ρ.length := blt_lt (by simpa [within] using hp)
    simp only [ren]
    constructor
    · intro h
      cases h with
      | vw hl hn hv h1 h2 h3 h4 => exact .vw (E.i2 o hlt) (by rw [E.rlen o hlt]; exact hn) (by rw [E.rowv o hlt]; exact hv) h1 h2 h3 h4
      | vwold hl hn => exact .vwold (E.i2 o hlt) (by rw [E.rlen o hlt]; exact hn)
    · intro h
      cases h with
      | vw hl hn hv h1 h2 h3 h4 => exact .vw (E.i1 o hlt) (by rw [← E.rlen o hlt]; exact hn) (by rw [← E.rowv o hlt]; exact hv) h1 h2 h3 h4
      | vwold hl hn => exact .vwold (E.i1 o hlt) (by rw [← E.rlen o hlt]; exact hn)
  | .eptr cs, x, _ => ⟨fun h => by cases h with | eptr a vals hF ha hcell hrep => exact .eptr a vals hF ha hcell hrep, fun h => by simp only [ren] at h; cases h with | eptr a vals hF ha hcell hrep => exact .eptr a vals hF ha hcell hrep⟩
  | .fn f as bs, x, hp => by
    simp only [within, Bool.and_eq_true] at hp
    simp only [ren]
    constructor
    · intro h
      cases h with
      | @fn _ _ _ _ fs cs h1 h2 r1 r2 => exact .fn (by rw [h1, rens_length]) (by rw [h2, rens_length]) ((reps_ren E as _ hp.1).1 r1) ((reps_ren E bs _ hp.2).1 r2)
    · intro h
      cases h with
      | @fn _ _ _ _ fs cs h1 h2 r1 r2 => exact .fn (by rw [h1, rens_length]) (by rw [h2, rens_length]) ((reps_ren E as _ hp.1).2 r1) ((reps_ren E bs _ hp.2).2 r2)
  | .ifc t y, x, hp => by
    simp only [ren]
    have := fun z => rep_ren E y z (by simpa [within] using hp)
    constructor
    · intro h; obtain ⟨z, rfl, hz⟩ := h.ifc_inv; exact .ifc ((this z).1 hz)
    · intro h; obtain ⟨z, rfl, hz⟩ := h.ifc_inv; exact .ifc ((this z).2 hz)
  | .agg cs, x, hp => by
    simp only [ren]
    constructor
    · intro h; obtain ⟨vs, rfl, h1, h2⟩ := h.agg_inv; exact .agg (by rw [h1, rens_length]) ((reps_ren E cs _ (by simpa [within] using hp)).1 h2)
    · intro h; obtain ⟨vs, rfl, h1, h2⟩ := h.agg_inv; exact .agg (by rw [h1, rens_length]) ((reps_ren E cs _ (by simpa [within] using hp)).2 h2)
  | .tup cs, x, hp => by
    simp only [ren]
    constructor
    · intro h; obtain ⟨vs, rfl, h1, h2⟩ := h.tup_inv; exact .tup (by rw [h1, rens_length]) ((reps_ren E cs _ (by simpa [within] using hp)).1 h2)
    · intro h; obtain ⟨vs, rfl, h1, h2⟩ := h.tup_inv; exact .tup (by rw [h1, rens_length]) ((reps_ren E cs _ (by simpa [within] using hp)).2 h2)
  | .dead, x, _ => ⟨fun _ => .dead, fun _ => .dead⟩
theorem reps_ren (E : EnvRn ρ e1 e2) : ∀ (cs : List AV) (f : Nat → Value), withins ρ.length cs = true → ((∀ (j : Nat) s, cs[j]? = some s → Rep w F e1 s (f j)) ↔ ∀ (j : Nat) s, (rens ρ cs)[j]? = some s → Rep w F e2 s (f j))
  | [], f, _ => ⟨fun _ j s hj => by simp [rens] at hj, fun _ j s hj => by simp at hj⟩
  | c :: r, f, hp => by
    simp only [withins, Bool.and_eq_true] at hp
    have h1 := rep_ren E c (f 0) hp.1
    have h2 := reps_ren E r (fun j => f (j + 1)) hp.2
    constructor
    · intro h j s hj
      cases j with
      | zero => simp [rens] at hj; subst hj; exact h1.1 (h 0 c rfl)
      | succ j => exact h2.1 (fun j s hj => h (j + 1) s (by simpa using hj)) j s (by simpa [rens] using hj)
    · intro h j s hj
      cases j with
      | zero => simp at hj; subst hj; exact h1.2 (h 0 _ rfl)
      | succ j => exact h2.2 (fun j s hj => h (j + 1) s (by simpa [rens] using hj)) j s (by simpa using hj)
end

theorem memB_iff {l : List Nat} {o : Nat} : memB l o = true ↔ o ∈ l := by
  unfold memB
  rw [List.any_eq_true]
  constructor
  · rintro ⟨x, hx, h⟩; have := Nat.eq_of_beq_eq_true h; subst this; exact hx
  · intro h; exact ⟨o, h, by simp⟩
theorem distinct_inj : ∀ {l : List Nat}, distinct l = true → ∀ (i j : Nat) o, l[i]? = some o → l[j]? = some o → i = j
  | [], _, i, j, o, hi, _ => by simp at hi
  | a :: r, h, i, j, o, hi, hj => by
    simp only [distinct, Bool.and_eq_true] at h
    have hn : a ∉ r := by
      intro ha
      have := memB_iff.2 ha
      rw [this] at h
      simp at h
    cases i with
    | zero =>
      cases j with
      | zero => rfl
      | succ j => simp at hi hj; subst hi; exact absurd (List.mem_of_getElem? hj) hn
    | succ i =>
      cases j with
      | zero => simp at hi hj; subst hj; exact absurd (List.mem_of_getElem? hi) hn
      | succ j => simp at hi hj; rw [distinct_inj h.2 i j o hi hj]
theorem allLt_get {n : Nat} : ∀ {l : List Nat}, allLt n l = true → ∀ (i : Nat) o, l[i]? = some o → o < n
  | [], _, i, o, hi => by simp at hi
  | a :: r, h, i, o, hi => by
    simp only [allLt, Bool.and_eq_true] at h
    cases i with
    | zero => simp at hi; subst hi; exact blt_lt h.1
    | succ i => exact allLt_get h.2 i o (by simpa using hi)
theorem getObs_get : ∀ {l : List Nat} {H0 : List Ob}, getObs H l = somes H0 → ∀ (i : Nat) o, l[i]? = some o → ∃ x, H0[i]? = some x ∧ H[o]? = some x
  | [], _, _, i, o, hi => by simp at hi
  | a :: r, [], h, i, o, hi => by simp [getObs, somes] at h
  | a :: r, x :: s, h, i, o, hi => by
    simp only [getObs, somes, List.cons.injEq] at h
    cases i with
    | zero => simp at hi; subst hi; exact ⟨x, rfl, h.1⟩
    | succ i => exact getObs_get h.2 i o (by simpa using hi)
theorem putObs_length : ∀ (l : List Nat) (L H : List Ob), (putObs l L H).length = H.length
  | [], L, H => by cases L <;> simp [putObs]
  | a :: r, [], H => rfl
  | a :: r, x :: s, H => by simp [putObs, putObs_length r s]
theorem putObs_other : ∀ (l : List Nat) (L H : List Ob) (o : Nat), o ∉ l → (putObs l L H)[o]? = H[o]?
  | [], L, H, o, _ => by cases L <;> simp [putObs]
  | a :: r, [], H, o, _ => rfl
  | a :: r, x :: s, H, o, h => by
    simp only [List.mem_cons, not_or] at h
    rw [putObs, putObs_other r s _ o h.2, List.getElem?_set_ne (Ne.symm h.1)]
theorem putObs_get : ∀ (l : List Nat) (L H : List Ob) (i : Nat) o x, distinct l = true → allLt H.length l = true → l[i]? = some o → L[i]? = some x → (putObs l L H)[o]? = some x
  | [], L, H, i, o, x, _, _, hi, _ => by simp at hi
  | a :: r, [], H, i, o, x, _, _, _, hx => by simp at hx
  | a :: r, y :: s, H, i, o, x, hd, hl, hi, hx => by
    have hd0 := hd
    simp only [distinct, Bool.and_eq_true] at hd
    simp only [allLt, Bool.and_eq_true] at hl
    have hn : a ∉ r := by
      intro ha
      have := memB_iff.2 ha
      rw [this] at hd
      simp at hd
    cases i with
    | zero =>
      simp at hi hx
      subst hi hx
      rw [putObs, putObs_other r s _ _ hn, List.getElem?_set_self (blt_lt hl.1)]
    | succ i => exact putObs_get r s _ i o x hd.2 (by simpa using hl.2) (by simpa using hi) (by simpa using hx)
theorem renH_get : ∀ (H : List Ob) (i : Nat) x, H[i]? = some x → (renH ρ H)[i]? = some (renO ρ x)
  | [], i, x, h => by simp at h
  | a :: r, i, x, h => by
    cases i with
    | zero => simp at h; subst h; rfl
    | succ i => exact renH_get r i x (by simpa using h)
theorem renH_length : ∀ (H : List Ob), (renH ρ H).length = H.length
  | [] => rfl
  | a :: r => by simp [renH, renH_length r]
theorem somes_length : ∀ (H : List Ob), (somes H).length = H.length
  | [] => rfl
  | a :: r => by simp [somes, somes_length r]
theorem getObs_length : ∀ (l : List Nat), (getObs H l).length = l.length
  | [] => rfl
  | a :: r => by simp [getObs, getObs_length r]

theorem CallP.use {g : FuncId} {H0 L : List Ob} {args0 : List AV} {R : AV} (h : CallP P g H0 args0 fun r H' => r = R ∧ H'.take L.length = L) {H : List Ob} {args : List AV} {K : AV → List Ob → Prop} (ρ : List Nat)
    (hd : distinct ρ = true) (hl : allLt H.length ρ = true) (hL : L.length = ρ.length) (hH : getObs H ρ = somes (renH ρ H0)) (ha : rens ρ args0 = args)
    (w1 : withins ρ.length args0 = true) (w2 : withinObs ρ.length H0 = true) (w3 : within ρ.length R = true) (w4 : withinObs ρ.length L = true)
    (hk : K (ren ρ R) (putObs ρ (renH ρ L) H)) : CallP P g H args K := by
  refine ⟨h.call, fun C w F e vs M hr => ?_⟩
  have hlen0 : H0.length = ρ.length := by have := congrArg List.length hH; rw [getObs_length, somes_length, renH_length] at this; omega
  have rnof : ∀ i, i < ρ.length → ρ[i]? = some (rn ρ i) := by
    intro i hi
    unfold rn
    rw [List.getElem?_eq_getElem hi]
  have rnlt : ∀ i, i < ρ.length → rn ρ i < e.len := by
    intro i hi
    rw [M.heap.len]
    exact allLt_get hl i _ (rnof i hi)
  have rninj : ∀ i j, i < ρ.length → j < ρ.length → rn ρ i = rn ρ j → i = j := by
    intro i j hi hj he
    exact distinct_inj hd i j _ (rnof i hi) (by rw [he]; exact rnof j hj)
  let e0 : Env := ⟨ρ.length, fun i => e.blk (rn ρ i), fun i => e.rlen (rn ρ i), fun i => e.rowv (rn ρ i)⟩
  have E0 : EnvRn ρ e0 e := ⟨fun i hi => hi, rnlt, fun _ _ => rfl, fun _ _ => rfl, fun _ _ => rfl⟩
  let C0 : Ctx := ⟨w, fun b => ∃ i, i < ρ.length ∧ Owner e H (rn ρ i) b, e0, F⟩
  have hob : ∀ i x, H0[i]? = some x → i < ρ.length ∧ H[rn ρ i]? = some (renO ρ x) := by
    intro i x hx
    have hi : i < ρ.length := by rw [← hlen0]; exact (List.getElem?_eq_some_iff.1 hx).1
    obtain ⟨y, hy, hz⟩ := getObs_get hH i _ (rnof i hi)
    rw [renH_get H0 i x hx] at hy
    injection hy with hy
    subst hy
    exact ⟨hi, hz⟩
  have hown0 : ∀ i b, Owner e0 H0 i b → i < ρ.length ∧ Owner e H (rn ρ i) b := by
    intro i b hb
    unfold Owner at hb ⊢
    cases hx : H0[i]? with
    | none => rw [hx] at hb; exact hb.elim
    | some x =>
      obtain ⟨hi, hz⟩ := hob i x hx
      rw [hx] at hb
      rw [hz]
      refine ⟨hi, ?_⟩
      cases x with
      | var T cs => exact hb
      | row el sz xs => exact hb
      | frz sz xs => exact hb
      | gone => exact hb
  have M0 : Mem C0 H0 w F e0 := by
    refine ⟨⟨hlen0.symm, fun i x hx => ?_, fun i j b h1 h2 => ?_⟩, ⟨rfl, rfl, rfl, Nat.le_refl _, fun _ _ _ => rfl⟩, fun i b hb => .inr ⟨i, (hown0 i b hb).1, (hown0 i b hb).2⟩, fun _ h => h, M.bound, fun b hb => .inl hb, EnvLe.refl _⟩
    · obtain ⟨hi, hz⟩ := hob i x hx
      have := M.heap.ob _ _ hz
      cases x with
      | var T cs =>
        obtain ⟨hF, us, h1, h2, h3⟩ := this
        exact ⟨hF, us, h1, by rw [h2, rens_length], (reps_ren (w := w) (F := F) E0 cs (fun j => us.getD j undef) (by have := withinObs_get w2 i _ hx; simpa [withinOb] using this)).2 h3⟩
      | row el sz xs => exact this
      | frz sz xs => exact this
      | gone => trivial
    · obtain ⟨i1, o1⟩ := hown0 i b h1
      obtain ⟨i2, o2⟩ := hown0 j b h2
      exact rninj i j i1 i2 (M.heap.one _ _ _ o1 o2)
  have hr0 : RepCells w F e0 args0 vs := by
    subst ha
    exact ⟨by rw [hr.1, rens_length], (reps_ren (w := w) (F := F) E0 args0 (fun j => vs.getD j undef) w1).2 hr.2⟩
  refine (h.run C0 w F e0 vs M0 hr0).mono ?_
  rintro en w' ⟨r, x, H', F', e1, rfl, ⟨rfl, hLt⟩, M1, hrep, hE, hLat⟩
  have hkl : ρ.length ≤ H'.length := by have := congrArg List.length hLt; rw [List.length_take] at this; omega
  rw [hL] at hLt
  have Mc : Mem C0 L w' F' (e1.cut ρ.length) := by
    have := M1.cut (m := ρ.length) hkl (Nat.le_refl _) (by rw [hLt]; exact w4)
    rwa [hLt] at this
  let pick {α : Type} (f g : Nat → α) : Nat → α := fun o => match ρ.findIdx? (fun k => k == o) with | some i => f i | none => g o
  have pick_rn : ∀ {α : Type} (f g : Nat → α) i, i < ρ.length → pick f g (rn ρ i) = f i := by
    intro α f g i hi
    have : ρ.findIdx? (fun k => k == rn ρ i) = some i := by
      rw [List.findIdx?_eq_some_iff_getElem]
      refine ⟨hi, ?_, fun j hj => ?_⟩
      · have := rnof i hi
        rw [List.getElem?_eq_getElem hi] at this
        injection this with this
        simp [this]
      · have h1 := rnof j (by omega)
        rw [List.getElem?_eq_getElem (by omega)] at h1
        injection h1 with h1
        intro h2
        simp only [beq_iff_eq] at h2
        rw [h1] at h2
        have := rninj j i (by omega) hi h2
        omega
    simp only [pick, this]
  have pick_no : ∀ {α : Type} (f g : Nat → α) o, o ∉ ρ → pick f g o = g o := by
    intro α f g o ho
    have : ρ.findIdx? (fun k => k == o) = none := by
      rw [List.findIdx?_eq_none_iff]
      intro k hk
      simp only [beq_eq_false_iff_ne]
      intro h; subst h; exact ho hk
    simp only [pick, this]
  have inρ : ∀ o, o ∈ ρ → ∃ i, i < ρ.length ∧ o = rn ρ i := by
    intro o ho
    obtain ⟨i, hi, rfl⟩ := List.getElem_of_mem ho
    refine ⟨i, hi, ?_⟩
    have := rnof i hi
    rw [List.getElem?_eq_getElem hi] at this
    injection this
  let e2 : Env := ⟨e.len, e.blk, pick e1.rlen e.rlen, pick e1.rowv e.rowv⟩
  have E2 : EnvRn ρ (e1.cut ρ.length) e2 := ⟨fun i hi => hi, rnlt, fun i hi => (hE.blk i hi).symm, fun i hi => pick_rn _ _ i hi, fun i hi => pick_rn _ _ i hi⟩
  have hEe : EnvLe e e2 := by
    refine ⟨Nat.le_refl _, fun _ _ => rfl, fun o ho => ?_⟩
    by_cases hm : o ∈ ρ
    · obtain ⟨i, hi, rfl⟩ := inρ o hm
      have := hE.row i hi
      show e.rlen (rn ρ i) < pick e1.rlen e.rlen (rn ρ i) ∨ (pick e1.rlen e.rlen (rn ρ i) = e.rlen (rn ρ i) ∧ pick e1.rowv e.rowv (rn ρ i) = e.rowv (rn ρ i))
      rw [pick_rn _ _ i hi, pick_rn _ _ i hi]
      exact this
    · exact .inr ⟨pick_no _ _ o hm, pick_no _ _ o hm⟩
  have hget : ∀ i x, i < ρ.length → L[i]? = some x → (putObs ρ (renH ρ L) H)[rn ρ i]? = some (renO ρ x) := fun i x hi hx =>
    putObs_get ρ _ H i _ _ hd hl (rnof i hi) (renH_get L i x hx)
  have hgetno : ∀ o, o ∉ ρ → (putObs ρ (renH ρ L) H)[o]? = H[o]? := fun o ho => putObs_other ρ _ H o ho
  have hown2 : ∀ i b, i < ρ.length → Owner e2 (putObs ρ (renH ρ L) H) (rn ρ i) b → Owner (e1.cut ρ.length) L i b := by
    intro i b hi hb
    obtain ⟨x, hx⟩ : ∃ x, L[i]? = some x := ⟨_, List.getElem?_eq_getElem (by omega)⟩
    unfold Owner at hb ⊢
    rw [hget i x hi hx] at hb
    rw [hx]
    cases x with
    | var T cs => have hb : e2.blk (rn ρ i) = b := hb; rw [E2.blk i hi] at hb; exact hb
    | row el sz xs => simp only [renO] at hb; rw [E2.rowv i hi] at hb; exact hb
    | frz sz xs => exact hb
    | gone => exact hb
  have hownno : ∀ o b, o ∉ ρ → Owner e2 (putObs ρ (renH ρ L) H) o b → Owner e H o b := by
    intro o b ho hb
    unfold Owner at hb ⊢
    rw [hgetno o ho] at hb
    cases hx : H[o]? with
    | none => rw [hx] at hb; exact hb.elim
    | some x =>
      rw [hx] at hb
      cases x with
      | var T cs => exact hb
      | row el sz xs =>
        obtain ⟨n, c, hv⟩ := hb
        exact ⟨n, c, by rw [← hv]; exact (pick_no _ _ o ho).symm⟩
      | frz sz xs => exact hb
      | gone => exact hb
  have hnotown : ∀ o b, o ∉ ρ → Owner e H o b → ¬ ∃ i, i < ρ.length ∧ Owner e H (rn ρ i) b := by
    rintro o b ho h1 ⟨i, hi, h2⟩
    have := M.heap.one _ _ _ h1 h2
    subst this
    exact ho (List.mem_of_getElem? (rnof i hi))
  have M2 : Mem C (putObs ρ (renH ρ L) H) w' F' e2 := by
    refine ⟨⟨by rw [putObs_length]; exact M.heap.len, fun o y hy => ?_, fun o1 o2 b h1 h2 => ?_⟩, ⟨M1.mod.os.trans M.mod.os, M1.mod.tape.trans M.mod.tape, M1.mod.output.trans M.mod.output, Nat.le_trans M.mod.size M1.mod.size, fun b hb hn => ?_⟩, fun o b hb => ?_, fun b hb => M1.sub b (M.sub b hb), M1.bound, fun b hb => ?_, M.env.trans hEe⟩
    · by_cases hm : o ∈ ρ
      · obtain ⟨i, hi, rfl⟩ := inρ o hm
        obtain ⟨x, hx⟩ : ∃ x, L[i]? = some x := ⟨_, List.getElem?_eq_getElem (by omega)⟩
        rw [hget i x hi hx] at hy
        injection hy with hy
        subst hy
        have := Mc.heap.ob i x hx
        cases x with
        | var T cs =>
          obtain ⟨hF, us, h1, h2, h3⟩ := this
          refine ⟨by rw [E2.blk i hi]; exact hF, us, by rw [E2.blk i hi]; exact h1, by rw [h2, rens_length], (reps_ren (w := w') (F := F') E2 cs (fun j => us.getD j undef) (by have := withinObs_get w4 i _ hx; simpa [withinOb] using this)).1 h3⟩
        | row el sz xs => exact ⟨by rw [E2.rlen i hi]; exact this.1, by rw [E2.rowv i hi]; exact this.2⟩
        | frz sz xs => exact ⟨by rw [E2.rlen i hi]; exact this.1, this.2.1, by rw [E2.rowv i hi]; exact this.2.2⟩
        | gone => trivial
      · rw [hgetno o hm] at hy
        have hlt : o < e.len := by rw [M.heap.len]; exact (List.getElem?_eq_some_iff.1 hy).1
        refine ObRep.keep hy hlt (M.heap.ob o y hy) hLat (fun b hb => ?_) hEe (pick_no _ _ o hm) (pick_no _ _ o hm) (fun b hb => M1.mod.block b (hb.lt M.heap) (hnotown o b hm hb))
        rcases M1.fresh b hb with h4 | h4 | h4
        · exact .inl h4
        · refine .inr fun h5 => ?_
          have h4 : w.heap.size ≤ b := h4
          have := h5.lt M.heap
          omega
        · exact .inr fun h5 => hnotown o b hm h5 h4
    · by_cases m1 : o1 ∈ ρ <;> by_cases m2 : o2 ∈ ρ
      · obtain ⟨i, hi, rfl⟩ := inρ o1 m1
        obtain ⟨j, hj, rfl⟩ := inρ o2 m2
        rw [Mc.heap.one _ _ _ (hown2 i b hi h1) (hown2 j b hj h2)]
      · obtain ⟨i, hi, rfl⟩ := inρ o1 m1
        have k2 := hownno o2 b m2 h2
        rcases Mc.ours _ _ (hown2 i b hi h1) with h4 | h4
        · have h4 : w.heap.size ≤ b := h4
          have := k2.lt M.heap; omega
        · exact absurd h4 (hnotown o2 b m2 k2)
      · obtain ⟨j, hj, rfl⟩ := inρ o2 m2
        have k1 := hownno o1 b m1 h1
        rcases Mc.ours _ _ (hown2 j b hj h2) with h4 | h4
        · have h4 : w.heap.size ≤ b := h4
          have := k1.lt M.heap; omega
        · exact absurd h4 (hnotown o1 b m1 k1)
      · exact M.heap.one _ _ _ (hownno o1 b m1 h1) (hownno o2 b m2 h2)
    · rw [M1.mod.block b (Nat.lt_of_lt_of_le hb M.mod.size) (fun ⟨i, _, h4⟩ => ?_)]
      · exact M.mod.block b hb hn
      · rcases M.ours _ _ h4 with h5 | h5
        · omega
        · exact hn h5
    · by_cases hm : o ∈ ρ
      · obtain ⟨i, hi, rfl⟩ := inρ o hm
        rcases Mc.ours _ _ (hown2 i b hi hb) with h4 | ⟨j, _, h4⟩
        · exact .inl (Nat.le_trans M.mod.size h4)
        · exact M.ours _ _ h4
      · exact M.ours _ _ (hownno o b hm hb)
    · rcases M1.fresh b hb with h4 | h4 | ⟨j, _, h4⟩
      · exact M.fresh b h4
      · exact .inr (.inl (Nat.le_trans M.mod.size h4))
      · rcases M.ours _ _ h4 with h5 | h5
        · exact .inr (.inl h5)
        · exact .inr (.inr h5)
  refine ⟨ren ρ r, x, _, F', e2, rfl, hk, M2, ?_, hEe, hLat⟩
  exact (rep_ren E2 r x w3).1 (within_cut r x w3 hrep)

/-- Objects in other places, others let go: object i of the new heap lies in place ρ i of the old one. -/
theorem weak_ren {S : St} {n b : Nat} {l : List (Nat × AV)} {H' : List Ob} (ρ : List Nat) (hn : S.n = n) (hb : S.base = b) (hd : distinct ρ = true) (hl : allLt S.heap.length ρ = true) (hb0 : ρ.take b = List.range b) (hbl : Nat.ble b ρ.length = true)
    (hH : getObs S.heap ρ = somes (renH ρ H')) (w2 : withinObs ρ.length H' = true) (wl : withins ρ.length (l.map (·.2)) = true) (hr : ∀ p ∈ l, S.regs p.1 = ren ρ p.2) : Weak S ⟨n, b, ofRegs l, H'⟩ := by
  refine ⟨fun C a w F e h => ?_⟩
  have M := h.mem
  have hble : b ≤ ρ.length := Nat.le_of_ble_eq_true hbl
  have hlen0 : H'.length = ρ.length := by have := congrArg List.length hH; rw [getObs_length, somes_length, renH_length] at this; omega
  have rnof : ∀ i, i < ρ.length → ρ[i]? = some (rn ρ i) := by
    intro i hi
    unfold rn
    rw [List.getElem?_eq_getElem hi]
  have rnlt : ∀ i, i < ρ.length → rn ρ i < e.len := by
    intro i hi
    rw [M.heap.len]
    exact allLt_get hl i _ (rnof i hi)
  have rninj : ∀ i j, i < ρ.length → j < ρ.length → rn ρ i = rn ρ j → i = j := by
    intro i j hi hj he
    exact distinct_inj hd i j _ (rnof i hi) (by rw [he]; exact rnof j hj)
  have rnbase : ∀ i, i < b → rn ρ i = i := by
    intro i hi
    have h1 := rnof i (by omega)
    have h2 : (ρ.take b)[i]? = ρ[i]? := List.getElem?_take_of_lt hi
    rw [hb0, List.getElem?_range hi] at h2
    rw [← h2] at h1
    injection h1 with h1
    exact h1.symm
  let e0 : Env := ⟨ρ.length, fun i => e.blk (rn ρ i), fun i => e.rlen (rn ρ i), fun i => e.rowv (rn ρ i)⟩
  have E0 : EnvRn ρ e0 e := ⟨fun i hi => hi, rnlt, fun _ _ => rfl, fun _ _ => rfl, fun _ _ => rfl⟩
  have hob : ∀ i x, H'[i]? = some x → i < ρ.length ∧ S.heap[rn ρ i]? = some (renO ρ x) := by
    intro i x hx
    have hi : i < ρ.length := by rw [← hlen0]; exact (List.getElem?_eq_some_iff.1 hx).1
    obtain ⟨y, hy, hz⟩ := getObs_get hH i _ (rnof i hi)
    rw [renH_get H' i x hx] at hy
    injection hy with hy
    subst hy
    exact ⟨hi, hz⟩
  have hown0 : ∀ i b, Owner e0 H' i b → i < ρ.length ∧ Owner e S.heap (rn ρ i) b := by
    intro i b hb
    unfold Owner at hb ⊢
    cases hx : H'[i]? with
    | none => rw [hx] at hb; exact hb.elim
    | some x =>
      obtain ⟨hi, hz⟩ := hob i x hx
      rw [hx] at hb
      rw [hz]
      refine ⟨hi, ?_⟩
      cases x with
      | var T cs => exact hb
      | row el sz xs => exact hb
      | frz sz xs => exact hb
      | gone => exact hb
  have hbase : C.e0.len = b := by rw [← hb]; exact h.base
  refine ⟨F, e0, h.defers, h.size.trans hn, hbase, fun t => ?_, ⟨⟨hlen0.symm, fun i x hx => ?_, fun i j k h1 h2 => ?_⟩, M.mod, fun i k hk => M.ours _ _ (hown0 i k hk).2, M.sub, M.bound, M.fresh, ⟨?_, fun o ho => ?_, fun o ho => ?_⟩⟩⟩
  · have hsc : ∀ p ∈ l, within ρ.length p.2 = true := by
      clear hr
      induction l with
      | nil => intro p hp; cases hp
      | cons q r ih =>
        intro p hp
        simp only [List.map_cons, withins, Bool.and_eq_true] at wl
        rcases List.mem_cons.1 hp with rfl | hp
        · exact wl.1
        · exact ih wl.2 p hp
    rcases ofRegs_cases l t with h1 | ⟨p, hp, rfl, h2⟩
    · simp only; rw [h1]; exact .dead
    · simp only; rw [h2]
      refine (rep_ren E0 p.2 _ (hsc p hp)).2 ?_
      rw [← hr p hp]
      exact h.regs p.1
  · obtain ⟨hi, hz⟩ := hob i x hx
    have := M.heap.ob _ _ hz
    cases x with
    | var T cs =>
      obtain ⟨hF, us, h1, h2, h3⟩ := this
      exact ⟨hF, us, h1, by rw [h2, rens_length], (reps_ren (w := w) (F := F) E0 cs (fun j => us.getD j undef) (by have := withinObs_get w2 i _ hx; simpa [withinOb] using this)).2 h3⟩
    | row el sz xs => exact this
    | frz sz xs => exact this
    | gone => trivial
  · obtain ⟨i1, o1⟩ := hown0 i k h1
    obtain ⟨i2, o2⟩ := hown0 j k h2
    exact rninj i j i1 i2 (M.heap.one _ _ _ o1 o2)
  · show C.e0.len ≤ ρ.length
    omega
  · show e.blk (rn ρ o) = C.e0.blk o
    rw [rnbase o (by omega)]; exact M.env.blk o ho
  · show C.e0.rlen o < e.rlen (rn ρ o) ∨ (e.rlen (rn ρ o) = C.e0.rlen o ∧ e.rowv (rn ρ o) = C.e0.rowv o)
    rw [rnbase o (by omega)]; exact M.env.row o ho

/-- What is asked of the registers. -/
def RenRs (S : St) (ρ : List Nat) : List (Nat × AV) → Prop
  | [] => True
  | p :: r => S.regs p.1 = ren ρ p.2 ∧ RenRs S ρ r
theorem RenRs.get {S : St} {ρ : List Nat} : ∀ {l : List (Nat × AV)}, RenRs S ρ l → ∀ p ∈ l, S.regs p.1 = ren ρ p.2
  | [], _, p, hp => by cases hp
  | q :: r, h, p, hp => by
    rcases List.mem_cons.1 hp with rfl | hp
    · exact h.1
    · exact RenRs.get h.2 p hp

end
end Go.Ab
