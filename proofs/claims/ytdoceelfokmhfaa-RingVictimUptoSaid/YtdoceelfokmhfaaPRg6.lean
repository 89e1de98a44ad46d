/- The laws of chapter 11 (plain). -/
import Derived.Test.YtdoceelfokmhfaaPRg5
namespace Go.Ab
set_option linter.unusedVariables false
set_option linter.unusedSimpArgs false

def wa : Want := ⟨2, [97], [97, 0]⟩
def wb : Want := ⟨2, [98], [98, 0]⟩
def lk4 : Locks := ⟨[⟨1, wa⟩, ⟨2, wb⟩], [⟨1, wb, 9⟩, ⟨2, wa, 9⟩]⟩
theorem shown_1 : askM ⟨[], []⟩ 1 wa 9 = (⟨[⟨1, wa⟩], []⟩, 0) := by
  unfold askM
  simp only [blockM_nil]
  decide
theorem shown_2 : askM ⟨[⟨1, wa⟩], []⟩ 2 wb 9 = (⟨[⟨1, wa⟩, ⟨2, wb⟩], []⟩, 0) := by
  unfold askM
  simp only [blockM_nil]
  decide
theorem shown_3 : askM ⟨[⟨1, wa⟩, ⟨2, wb⟩], []⟩ 1 wb 9 = (⟨[⟨1, wa⟩, ⟨2, wb⟩], [⟨1, wb, 9⟩]⟩, 12) := by
  unfold askM
  simp only [blockM_nil]
  decide
theorem shown_4 : askM ⟨[⟨1, wa⟩, ⟨2, wb⟩], [⟨1, wb, 9⟩]⟩ 2 wa 9 = (lk4, 12) := by
  unfold askM
  simp only [blockM_nil]
  decide
theorem wa_ok : wOk wa := ⟨by decide, by decide⟩
theorem wb_ok : wOk wb := ⟨by decide, by decide⟩
theorem lk_ok {h : List Hold} {q : List Claim} (h1 : h.length ≤ 2) (h2 : q.length ≤ 2) (h3 : ∀ x ∈ h, x = ⟨1, wa⟩ ∨ x = ⟨2, wb⟩) (h4 : ∀ x ∈ q, x = ⟨1, wb, 9⟩ ∨ x = ⟨2, wa, 9⟩) : LOk ⟨h, q⟩ :=
  ⟨by simp only; omega, by simp only; omega, fun x hx => (h3 x hx).elim (fun e => by subst e; exact ⟨by decide, wa_ok⟩) (fun e => by subst e; exact ⟨by decide, wb_ok⟩),
    fun x hx => (h4 x hx).elim (fun e => by subst e; exact ⟨by decide, wb_ok⟩) (fun e => by subst e; exact ⟨by decide, wa_ok⟩)⟩
theorem lk4_ok : LOk lk4 := lk_ok (by decide) (by decide) (fun x hx => by simpa using hx) (fun x hx => by simpa using hx)
theorem lk4_sm : LSm lk4 := ⟨by decide, by decide⟩
theorem lk4_e12 : EdgeL lk4 1 2 := ⟨0, ⟨1, wb, 9⟩, rfl, rfl, (blockS_mem ..).2 (.inl ⟨⟨2, wb⟩, by simp [lk4], rfl, by decide, by decide⟩)⟩
theorem lk4_e21 : EdgeL lk4 2 1 := ⟨1, ⟨2, wa, 9⟩, rfl, rfl, (blockS_mem ..).2 (.inl ⟨⟨1, wa⟩, by simp [lk4], rfl, by decide, by decide⟩)⟩
theorem lk4_ring : ringM lk4 1 = [1, 2] := by
  refine srt_ext (setM_srt _ _) (by simp [Srt]) (fun x => ?_)
  rw [ringM_mem]
  constructor
  · intro h
    have := rch_uni h.1
    simp [uniL, lk4] at this
    rcases this with h | h | h | h <;> simp [h]
  · intro h
    rcases (by simpa using h : x = 1 ∨ x = 2) with rfl | rfl
    · exact ⟨.more (.one lk4_e12) lk4_e21, .more (.one lk4_e12) lk4_e21⟩
    · exact ⟨.one lk4_e12, .one lk4_e21⟩
theorem shown11 : law11_shown = some true := by
  have k1 : ref09_Key 2 [97] = some wa := by unfold ref09_Key; rw [need_pos (by decide)]; rfl
  have k2 : ref09_Key 2 [98] = some wb := by unfold ref09_Key; rw [need_pos (by decide)]; rfl
  have hv : victM lk4 1 = (2, true) := by
    unfold victM
    rw [lk4_ring]
    rfl
  unfold law11_shown
  rw [k1, k2]
  simp only [Option.bind_some]
  rw [rask_eq (lk_ok (by decide) (by decide) (fun x hx => by cases hx) (fun x hx => by cases hx)) 1 wa_ok, shown_1]
  simp only [Option.bind_some]
  rw [rask_eq (lk_ok (by decide) (by decide) (fun x hx => by simp at hx; exact .inl hx) (fun x hx => by cases hx)) 2 wb_ok, shown_2]
  simp only [Option.bind_some]
  rw [rask_eq (lk_ok (by decide) (by decide) (fun x hx => by simpa using hx) (fun x hx => by cases hx)) 1 wb_ok, shown_3]
  simp only [Option.bind_some]
  rw [rask_eq (lk_ok (by decide) (by decide) (fun x hx => by simpa using hx) (fun x hx => by simp at hx; exact .inl hx)) 2 wa_ok, shown_4]
  simp only [Option.bind_some]
  rw [ring_eq lk4_ok lk4_sm, victim_eq lk4_ok lk4_sm, lk4_ring, hv]
  rfl
theorem small11 (l : Locks) : law11_small l = some (decide (l.Held.length ≤ 30) && decide (l.Queue.length ≤ 12)) := by
  unfold law11_small
  by_cases h : l.Held.length ≤ 30
  · rw [if_pos (by simp; omega)]; simp [h]; omega
  · rw [if_neg (by simp; omega)]; simp [h]
theorem sm_of {l : Locks} (h : (decide (l.Held.length ≤ 30) && decide (l.Queue.length ≤ 12)) = true) : LSm l := by
  simp only [Bool.and_eq_true, decide_eq_true_eq] at h
  have : l.Queue.length * (l.Held.length + l.Queue.length) ≤ 12 * 42 := Nat.mul_le_mul (by omega) (by omega)
  exact ⟨by omega, by omega⟩
theorem ringTells {l : Locks} (hl : LOk l) (t : Int) : law11_RingTells l t = some true := by
  unfold law11_RingTells
  rw [shown11, small11]
  simp only [Option.bind_some]
  by_cases hs : (decide (l.Held.length ≤ 30) && decide (l.Queue.length ≤ 12)) = true
  · have sm := sm_of hs
    have s1 := sm.1
    have b1 := afterM_len (l := l) t
    have b2 := reachM_len (l := l) t
    have b3 := ringM_len l t
    rw [if_neg (by rw [hs]; simp), after_eq hl sm, rafter_eq hl sm]
    simp only [Option.bind_some]
    rw [ints_eq _ _ (by omega), reach_eq hl sm, rreach_eq hl sm]
    simp only [Option.bind_some]
    rw [ints_eq _ _ (by omega), ring_eq hl sm, rring_eq hl sm]
    simp only [Option.bind_some]
    rw [ints_eq _ _ (by omega), victim_eq hl sm, rvictim_eq hl sm]
    simp
  · rw [if_pos (by simp only [Bool.not_true, Bool.false_or, Bool.not_eq_true']; simpa using hs)]
theorem ring_same {l : Locks} {t x : Int} (h : x ∈ ringM l t) : ringM l x = ringM l t := by
  obtain ⟨h1, h2⟩ := (ringM_mem _ _ _).1 h
  refine srt_ext (setM_srt _ _) (setM_srt _ _) (fun y => ?_)
  have e1 := ringM_mem l x y
  have e2 := ringM_mem l t y
  exact e1.trans (Iff.trans ⟨fun g => ⟨h1.trans g.1, g.2.trans h2⟩, fun g => ⟨h2.trans g.1, g.2.trans h1⟩⟩ e2.symm)
theorem rch_first {l : Locks} {a b : Int} (h : RchL l a b) : ∃ y, EdgeL l a y ∧ (y = b ∨ RchL l y b) := by
  induction h with
  | one h => exact ⟨_, h, .inl rfl⟩
  | more _ h ih =>
    obtain ⟨y, h1, h2⟩ := ih
    refine ⟨y, h1, .inr ?_⟩
    rcases h2 with rfl | h2
    · exact .one h
    · exact .more h2 h
theorem ringSame {l : Locks} (hl : LOk l) (t : Int) : law11_RingSame l t = some true := by
  unfold law11_RingSame
  rw [shown11, small11]
  simp only [Option.bind_some]
  by_cases hs : (decide (l.Held.length ≤ 30) && decide (l.Queue.length ≤ 12)) = true
  · have sm := sm_of hs
    have s1 := sm.1
    have b3 := ringM_len l t
    rw [if_neg (by rw [hs]; simp), ring_eq hl sm]
    simp only [Option.bind_some]
    rw [all_loop (ringM l t).length (.inr ()) (fun (s1775 : Int) => law11_RingSame_l22 l (ringM l t) s1775) (fun k hk => by
      have hm : (ringM l t)[k] ∈ ringM l t := List.getElem_mem hk
      have hsame := ring_same hm
      have hne : ringM l t ≠ [] := mem_ne.1 ⟨_, hm⟩
      have hv : victM l (ringM l t)[k] = (lastM (ringM l t), true) := by unfold victM; rw [hsame, if_neg hne]
      have b1 := afterM_len (l := l) (ringM l t)[k]
      obtain ⟨y, g1, g2⟩ := inv_loop (ρ := Bool) (afterM l (ringM l t)[k]) (fun j (s : Bool) => (s, (j : Int))) (fun (s2101 : Bool × Int) => law11_RingSame_l26 (ringM l t) (afterM l (ringM l t)[k]) s2101.1 s2101.2) (fun s => s)
        (fun j s => s = true ↔ ∃ y ∈ (afterM l (ringM l t)[k]).take j, y ∈ ringM l t)
        (fun j x s hj hi => by
          have hlt := (List.getElem?_eq_some_iff.1 hj).1
          refine ⟨s || decide (x ∈ ringM l t), ?_, ?_⟩
          · simp only
            unfold law11_RingSame_l26
            rw [if_pos (by simpa using hlt)]
            cases s with
            | true => rw [if_pos rfl, IntWalk.i64_in _ ⟨by omega, by omega⟩]; rfl
            | false =>
              rw [if_neg (by simp), ix_in hlt, (List.getElem?_eq_some_iff.1 hj).2]
              simp only [Option.bind_some]
              rw [lhas_eq (by omega), IntWalk.i64_in _ ⟨by omega, by omega⟩]
              simp
          · rw [Bool.or_eq_true, hi, decide_eq_true_eq]
            constructor
            · rintro (⟨y, h1, h2⟩ | h)
              · exact ⟨y, (mem_take_succ hj y).2 (.inl h1), h2⟩
              · exact ⟨x, (mem_take_succ hj x).2 (.inr rfl), h⟩
            · rintro ⟨y, h1, h2⟩
              rcases (mem_take_succ hj y).1 h1 with h1 | rfl
              · exact .inl ⟨y, h1, h2⟩
              · exact .inr h2)
        (fun s _ => by
          simp only
          unfold law11_RingSame_l26
          rw [if_neg (by simp)]) false (by simp)
      have g1' : loop (fun (s2101 : Bool × Int) => law11_RingSame_l26 (ringM l t) (afterM l (ringM l t)[k]) s2101.1 s2101.2) (false, (0 : Int)) = some y := g1
      have hy : y = true := by
        rw [g2, List.take_length]
        obtain ⟨h1, h2⟩ := (ringM_mem _ _ _).1 hm
        obtain ⟨z, z1, z2⟩ := rch_first (h2.trans h1)
        refine ⟨z, (afterM_mem _ _ _).2 z1, (ringM_mem _ _ _).2 ⟨.more h1 z1, ?_⟩⟩
        rcases z2 with rfl | z2
        · exact h2
        · exact z2.trans h2
      unfold law11_RingSame_l22
      rw [if_pos (by simpa using hk), ix_in hk]
      simp only [Option.bind_some]
      rw [ring_eq hl sm, hsame]
      simp only [Option.bind_some]
      rw [ints_eq _ _ (by omega), victim_eq hl sm, hv]
      simp only [Option.bind_some, decide_true, Bool.not_true, Bool.false_eq_true, if_false]
      rw [last_at hne, if_pos (by omega)]
      simp only [Option.bind_some, decide_true, Bool.not_true, Bool.false_eq_true, if_false]
      rw [after_eq hl sm]
      simp only [Option.bind_some]
      rw [g1', hy, IntWalk.i64_in _ ⟨by omega, by omega⟩]
      rfl) (by
      unfold law11_RingSame_l22
      rw [if_neg (by simp)])]
    rfl
  · rw [if_pos (by simp only [Bool.not_true, Bool.false_or, Bool.not_eq_true']; simpa using hs)]
theorem ringBreaks {l : Locks} (hl : LOk l) (t o : Int) : law11_RingBreaks l t o = some true := by
  unfold law11_RingBreaks
  rw [shown11, small11]
  simp only [Option.bind_some]
  by_cases hs : (decide (l.Held.length ≤ 30) && decide (l.Queue.length ≤ 12)) = true
  · have sm := sm_of hs
    have s1 := sm.1
    obtain ⟨o1, o2, o3⟩ := free_ok hl sm t
    have e1 : ringM (freeM l t).1 t = [] := ring_none (fun h => free_gone h)
    rw [if_neg (by rw [hs]; simp), ring_eq hl sm, rfree_eq hl (by omega)]
    simp only [Option.bind_some]
    rw [ring_eq o1 o2, ring_eq o1 o2, e1]
    simp only [Option.bind_some]
    rw [if_pos (by simp)]
    by_cases h : ringM l o = []
    · have e2 : ringM (freeM l t).1 o = [] := List.eq_nil_iff_forall_not_mem.2 (fun x hx => by
        have := ring_sub hx
        rw [h] at this; cases this)
      rw [h, e2]
      rfl
    · have hp := List.length_pos_iff.2 h
      rw [if_pos (by simp only [decide_eq_true_eq]; omega)]
  · rw [if_pos (by simp only [Bool.not_true, Bool.false_or, Bool.not_eq_true']; simpa using hs)]
theorem ringNone {l : Locks} (hl : LOk l) (t : Int) : law11_RingNone l t = some true := by
  unfold law11_RingNone
  rw [shown11, small11]
  simp only [Option.bind_some]
  by_cases hs : (decide (l.Held.length ≤ 30) && decide (l.Queue.length ≤ 12)) = true
  · have sm := sm_of hs
    have s1 := sm.1
    have b1 := afterM_len (l := l) t
    have b2 := reachM_len (l := l) t
    rw [if_neg (by rw [hs]; simp), after_eq hl sm, reach_eq hl sm, ring_eq hl sm]
    simp only [Option.bind_some]
    by_cases h : afterM l t = []
    · have hno : ∀ x, ¬ RchL l t x := fun x hx => by
        obtain ⟨y, h1, _⟩ := rch_first hx
        have := (afterM_mem _ _ _).2 h1
        rw [h] at this; cases this
      have e1 : reachM l t = [] := List.eq_nil_iff_forall_not_mem.2 (fun x hx => hno x ((reachM_mem _ _ _).1 hx))
      rw [h, e1, ring_none (hno t)]
      rfl
    · have hp := List.length_pos_iff.2 h
      rw [if_neg (by simp only [decide_eq_true_eq]; omega), all_loop (afterM l t).length (.inr ()) (fun (s103 : Int) => law11_RingNone_l2 (afterM l t) (reachM l t) s103) (fun k hk => by
        unfold law11_RingNone_l2
        rw [if_pos (by simpa using hk), ix_in hk]
        simp only [Option.bind_some]
        rw [lhas_eq (by omega), IntWalk.i64_in _ ⟨by omega, by omega⟩]
        have hm : (afterM l t)[k] ∈ reachM l t := (reachM_mem _ _ _).2 (.one ((afterM_mem _ _ _).1 (List.getElem_mem hk)))
        simp [hm]) (by
        unfold law11_RingNone_l2
        rw [if_neg (by simp)])]
      simp only [Option.bind_some]
      rw [lhas_eq (by omega)]
      simp only [Option.bind_some, Option.some.injEq, beq_iff_eq]
      by_cases hr : RchL l t t
      · have hm : t ∈ ringM l t := (ringM_mem _ _ _).2 ⟨hr, hr⟩
        have := List.length_pos_of_mem hm
        rw [decide_eq_true ((reachM_mem _ _ _).2 hr), decide_eq_true (by omega)]
      · rw [ring_none hr, decide_eq_false (fun h => hr ((reachM_mem _ _ _).1 h))]
        rfl
  · rw [if_pos (by simp only [Bool.not_true, Bool.false_or, Bool.not_eq_true']; simpa using hs)]
theorem ringVictim {l : Locks} (hl : LOk l) (t : Int) : law11_RingVictim l t = some true := by
  unfold law11_RingVictim
  rw [shown11, small11]
  simp only [Option.bind_some]
  by_cases hs : (decide (l.Held.length ≤ 30) && decide (l.Queue.length ≤ 12)) = true
  · have sm := sm_of hs
    have s1 := sm.1
    have b1 := ringM_len l t
    rw [if_neg (by rw [hs]; simp), ring_eq hl sm]
    simp only [Option.bind_some]
    have key : ∀ (m k : Nat) (s : Locks), k + m = (ringM l t).length → LOk s → LSm s → (ringM s t).length + k ≤ (ringM l t).length →
        ∃ v, loop (fun (s113 : Int × (List Hold) × (List Claim)) => law11_RingVictim_l2 t (ringM l t) s113.1 s113.2.1 s113.2.2) ((k : Int), s.Held, s.Queue) = some v ∧ (match v with | .inl _ => True | .inr h => LOk ⟨h.1, h.2⟩ ∧ LSm ⟨h.1, h.2⟩ ∧ ringM ⟨h.1, h.2⟩ t = []) := by
      intro m
      induction m with
      | zero =>
        intro k s hk h1 h2 h3
        refine ⟨.inr (s.Held, s.Queue), loop_inr ?_, h1, h2, List.length_eq_zero_iff.1 (show (ringM s t).length = 0 by omega)⟩
        simp only
        unfold law11_RingVictim_l2
        rw [if_neg (by simp only [decide_eq_true_eq]; omega)]
      | succ m ih =>
        intro k s hk h1 h2 h3
        by_cases h : ringM s t = []
        · refine ⟨.inl (), loop_inr ?_, trivial⟩
          simp only
          unfold law11_RingVictim_l2
          rw [if_pos (by simp only [decide_eq_true_eq]; omega), show ring_Victim ({ Held := s.Held, Queue := s.Queue } : Locks) t = some (victM s t) from victim_eq h1 h2 t]
          unfold victM
          rw [if_pos h]
          rfl
        · obtain ⟨o1, o2, o3⟩ := free_ok h1 h2 (lastM (ringM s t))
          have hlt := ring_less (last_mem h)
          obtain ⟨v, e1, e2⟩ := ih (k + 1) (freeM s (lastM (ringM s t))).1 (by omega) o1 o2 (by omega)
          refine ⟨v, ?_, e2⟩
          rw [loop_inl (s' := (((k + 1 : Nat) : Int), (freeM s (lastM (ringM s t))).1.Held, (freeM s (lastM (ringM s t))).1.Queue))]
          · exact e1
          · simp only
            unfold law11_RingVictim_l2
            rw [if_pos (by simp only [decide_eq_true_eq]; omega), show ring_Victim ({ Held := s.Held, Queue := s.Queue } : Locks) t = some (victM s t) from victim_eq h1 h2 t]
            unfold victM
            rw [if_neg h]
            simp only [Option.bind_some, Bool.not_true, Bool.false_eq_true, if_false]
            rw [show ref10_Free ({ Held := s.Held, Queue := s.Queue } : Locks) (lastM (ringM s t)) = some (freeM s (lastM (ringM s t))) from rfree_eq h1 h2.1 _, IntWalk.i64_in _ ⟨by omega, by omega⟩]
            rfl
    obtain ⟨v, e1, e2⟩ := key (ringM l t).length 0 l (by omega) hl sm (by omega)
    have e1' : loop (fun (s113 : Int × (List Hold) × (List Claim)) => law11_RingVictim_l2 t (ringM l t) s113.1 s113.2.1 s113.2.2) ((0 : Int), l.Held, l.Queue) = some v := e1
    rw [e1']
    cases v with
    | inl u => rfl
    | inr h =>
      simp only [Option.bind_some]
      rw [victim_eq e2.1 e2.2.1]
      unfold victM
      rw [if_pos e2.2.2]
      rfl
  · rw [if_pos (by simp only [Bool.not_true, Bool.false_or, Bool.not_eq_true']; simpa using hs)]
end Go.Ab
