/- For whom one waits: program and document alike (plain). -/
import Derived.Test.YtdoceelfokmhfaaPRg1
namespace Go.Ab
set_option linter.unusedVariables false
set_option linter.unusedSimpArgs false

def EdgeL (l : Locks) (t b : Int) : Prop := ∃ i c, l.Queue[i]? = some c ∧ c.Txn = t ∧ b ∈ blockM l t c.W i
inductive RchL (l : Locks) (t : Int) : Int → Prop
  | one {b : Int} : EdgeL l t b → RchL l t b
  | more {a b : Int} : RchL l t a → EdgeL l a b → RchL l t b
theorem RchL.trans {l : Locks} {a b c : Int} (h1 : RchL l a b) (h2 : RchL l b c) : RchL l a c := by
  induction h2 with
  | one h => exact .more h1 h
  | more _ h ih => exact .more ih h
def uniL (l : Locks) : List Int := l.Held.map (fun h => h.Txn) ++ l.Queue.map (fun c => c.Txn)
theorem uniL_len (l : Locks) : (uniL l).length = l.Held.length + l.Queue.length := by simp [uniL]
theorem blockM_uni {l : Locks} {t : Int} {w : Want} {n : Nat} {x : Int} (h : x ∈ blockM l t w n) : x ∈ uniL l := by
  rw [blockS_mem] at h
  unfold uniL
  rw [List.mem_append, List.mem_map, List.mem_map]
  rcases h with ⟨a, ha, h1, _⟩ | ⟨a, ha, h1, _⟩
  · exact .inl ⟨a, ha, h1⟩
  · exact .inr ⟨a, List.mem_of_mem_take ha, h1⟩
theorem edge_uni {l : Locks} {t b : Int} (h : EdgeL l t b) : b ∈ uniL l := by
  obtain ⟨i, c, _, _, h⟩ := h
  exact blockM_uni h
theorem rch_uni {l : Locks} {t b : Int} (h : RchL l t b) : b ∈ uniL l := by
  cases h with
  | one h => exact edge_uni h
  | more _ h => exact edge_uni h
theorem uni_in {l : Locks} (hl : LOk l) {x : Int} (h : x ∈ uniL l) : In64 x := by
  unfold uniL at h
  rw [List.mem_append, List.mem_map, List.mem_map] at h
  rcases h with ⟨a, ha, rfl⟩ | ⟨a, ha, rfl⟩
  · exact (hl.held a ha).1
  · exact (hl.que a ha).1
/-- The members of a row that are so, in order. -/
noncomputable def setM (u : List Int) (p : Int → Prop) : List Int := by
  classical exact (u.filter (fun x => decide (p x))).foldl putM []
theorem foldl_put (l : List Int) : ∀ a : List Int, Srt a → Srt (l.foldl putM a) ∧ ∀ x, x ∈ l.foldl putM a ↔ x ∈ a ∨ x ∈ l := by
  induction l with
  | nil => intro a h; exact ⟨h, fun x => by simp⟩
  | cons y r ih =>
    intro a h
    obtain ⟨h1, h2⟩ := ih (putM a y) (putM_srt h y)
    refine ⟨h1, fun x => ?_⟩
    rw [List.foldl_cons, h2, putM_mem, List.mem_cons]
    constructor
    · rintro ((h | h) | h)
      · exact .inr (.inl h)
      · exact .inl h
      · exact .inr (.inr h)
    · rintro (h | h | h)
      · exact .inl (.inr h)
      · exact .inl (.inl h)
      · exact .inr h
theorem setM_srt (u : List Int) (p : Int → Prop) : Srt (setM u p) := (foldl_put _ [] List.Pairwise.nil).1
theorem setM_mem (u : List Int) (p : Int → Prop) (x : Int) : x ∈ setM u p ↔ x ∈ u ∧ p x := by
  unfold setM
  rw [(foldl_put _ [] List.Pairwise.nil).2]
  simp
theorem setM_eq {u a : List Int} {p : Int → Prop} (h : Srt a) (hm : ∀ x, x ∈ a ↔ p x) (hu : ∀ x, p x → x ∈ u) : a = setM u p :=
  srt_ext h (setM_srt u p) (fun x => by rw [setM_mem, hm]; exact ⟨fun h => ⟨hu x h, h⟩, fun h => h.2⟩)
theorem setM_len (u : List Int) (p : Int → Prop) : (setM u p).length ≤ u.length := nodup_len (srt_nodup (setM_srt u p)) (fun x hx => ((setM_mem u p x).1 hx).1)
noncomputable def afterM (l : Locks) (t : Int) : List Int := setM (uniL l) (EdgeL l t)
noncomputable def reachM (l : Locks) (t : Int) : List Int := setM (uniL l) (RchL l t)
noncomputable def ringM (l : Locks) (t : Int) : List Int := setM (uniL l) (fun x => RchL l t x ∧ RchL l x t)
theorem afterM_mem (l : Locks) (t x : Int) : x ∈ afterM l t ↔ EdgeL l t x := by
  unfold afterM; rw [setM_mem]; exact ⟨fun h => h.2, fun h => ⟨edge_uni h, h⟩⟩
theorem reachM_mem (l : Locks) (t x : Int) : x ∈ reachM l t ↔ RchL l t x := by
  unfold reachM; rw [setM_mem]; exact ⟨fun h => h.2, fun h => ⟨rch_uni h, h⟩⟩
theorem ringM_mem (l : Locks) (t x : Int) : x ∈ ringM l t ↔ RchL l t x ∧ RchL l x t := by
  unfold ringM; rw [setM_mem]; exact ⟨fun h => h.2, fun h => ⟨rch_uni h.1, h⟩⟩
/-- Locks that are few enough for the rows of a search. -/
def LSm (l : Locks) : Prop := l.Held.length + l.Queue.length ≤ 2000000 ∧ l.Queue.length * (l.Held.length + l.Queue.length) < 1073741824
theorem afterM_len {l : Locks} (t : Int) : (afterM l t).length ≤ l.Held.length + l.Queue.length := by
  have := setM_len (uniL l) (EdgeL l t)
  rw [uniL_len] at this; exact this
theorem reachM_len {l : Locks} (t : Int) : (reachM l t).length ≤ l.Held.length + l.Queue.length := by
  have := setM_len (uniL l) (RchL l t)
  rw [uniL_len] at this; exact this
theorem mul_step {k n U : Nat} (h : k < n) : k * U + U ≤ n * U := by
  have h1 : (k + 1) * U ≤ n * U := Nat.mul_le_mul_right U h
  have h2 : (k + 1) * U = k * U + U := Nat.succ_mul k U
  omega
theorem leI_trans (a b c : Int) (h1 : leI a b = true) (h2 : leI b c = true) : leI a c = true := by
  unfold leI at *; simp only [decide_eq_true_eq] at *; omega
theorem leI_tot (a b : Int) : (leI a b || leI b a) = true := by
  unfold leI; simp only [Bool.or_eq_true, decide_eq_true_eq]; omega
theorem sorted_le (l : List Int) : (l.mergeSort leI).Pairwise (fun a b => a ≤ b) := by
  have := List.pairwise_mergeSort (le := leI) leI_trans leI_tot l
  exact this.imp fun h => by unfold leI at h; simpa using h
theorem after_eq {l : Locks} (hl : LOk l) (hs : LSm l) (t : Int) : ring_After l t = some (afterM l t) := by
  have b1 := hl.queL
  obtain ⟨s1, s2⟩ := hs
  obtain ⟨y, h1, h2, h3⟩ := inv_loop (ρ := List Int) l.Queue (fun k (s : List Int) => ((k : Int), s)) (fun (s196 : Int × (List Int)) => ring_After_l2 l t s196.1 s196.2) (fun s => s)
    (fun k s => (∀ x, x ∈ s ↔ ∃ i c, i < k ∧ l.Queue[i]? = some c ∧ c.Txn = t ∧ x ∈ blockM l t c.W i) ∧ s.length ≤ k * (l.Held.length + l.Queue.length))
    (fun k c s hk hi => by
      have hlt := (List.getElem?_eq_some_iff.1 hk).1
      have hx := (List.getElem?_eq_some_iff.1 hk).2
      obtain ⟨i1, i2⟩ := hi
      have hm := mul_step (U := l.Held.length + l.Queue.length) hlt
      have e : (k + 1) * (l.Held.length + l.Queue.length) = k * (l.Held.length + l.Queue.length) + (l.Held.length + l.Queue.length) := Nat.succ_mul ..
      by_cases h : c.Txn = t
      · have hb := blockM_len l t c.W k
        refine ⟨s ++ blockM l t c.W k, ?_, fun x => ?_, by rw [List.length_append]; omega⟩
        · simp only
          unfold ring_After_l2
          rw [if_pos (by simpa using hlt), ix_in hlt, hx]
          simp only [Option.bind_some]
          rw [if_pos (by simpa using h), blockers_eq hl, Int.toNat_natCast]
          simp only [Option.bind_some]
          rw [need_pos (by omega), IntWalk.i64_in _ ⟨by omega, by omega⟩]
          rfl
        · rw [List.mem_append, i1]
          constructor
          · rintro (⟨i, c2, g1, g2⟩ | g)
            · exact ⟨i, c2, by omega, g2⟩
            · exact ⟨k, c, by omega, hk, h, g⟩
          · rintro ⟨i, c2, g1, g2, g3, g4⟩
            by_cases hik : i = k
            · subst hik; rw [hk] at g2; cases g2; exact .inr g4
            · exact .inl ⟨i, c2, by omega, g2, g3, g4⟩
      · refine ⟨s, ?_, fun x => ?_, by omega⟩
        · simp only
          unfold ring_After_l2
          rw [if_pos (by simpa using hlt), ix_in hlt, hx]
          simp only [Option.bind_some]
          rw [if_neg (by simpa using h), IntWalk.i64_in _ ⟨by omega, by omega⟩]
          rfl
        · rw [i1]
          constructor
          · rintro ⟨i, c2, g1, g2⟩
            exact ⟨i, c2, by omega, g2⟩
          · rintro ⟨i, c2, g1, g2, g3, g4⟩
            by_cases hik : i = k
            · subst hik; rw [hk] at g2; cases g2; exact absurd g3 h
            · exact ⟨i, c2, by omega, g2, g3, g4⟩)
    (fun s _ => by
      simp only
      unfold ring_After_l2
      rw [if_neg (by simp)]) [] ⟨fun x => by simp, by simp⟩
  have h1' : loop (fun (s196 : Int × (List Int)) => ring_After_l2 l t s196.1 s196.2) ((0 : Int), ([] : (List Int))) = some y := h1
  obtain ⟨r, c1, c2, c3⟩ := compact_eq (l := y.mergeSort leI) (by rw [List.length_mergeSort]; omega) (sorted_le y)
  unfold ring_After
  rw [h1']
  simp only [Option.bind_some]
  rw [need_pos (by omega), c1]
  refine congrArg some (setM_eq c2 (fun x => ?_) (fun x h => edge_uni h))
  rw [c3, List.mem_mergeSort, h2]
  constructor
  · rintro ⟨i, c, _, g⟩; exact ⟨i, c, g⟩
  · rintro ⟨i, c, g⟩; exact ⟨i, c, (List.getElem?_eq_some_iff.1 g.1).1, g⟩
theorem rhas_eq {l : List Int} (hl : l.length ≤ 1099511627776) (n : Int) : ref11_has l n = some (decide (n ∈ l)) := by
  unfold ref11_has
  rcases find_loop l (fun x => decide (x = n)) (fun _ => (.inl () : Unit ⊕ Unit)) (.inr ()) (fun (s57 : Int) => ref11_has_l2 l n s57) hl (fun k x hk => by
    have hlt := (List.getElem?_eq_some_iff.1 hk).1
    unfold ref11_has_l2
    rw [if_pos (by simpa using hlt), ix_in hlt, (List.getElem?_eq_some_iff.1 hk).2, IntWalk.i64_in _ ⟨by omega, by omega⟩]
    by_cases h : x = n <;> simp [h]) (by unfold ref11_has_l2; rw [if_neg (by simp)]) with ⟨k, _, h1, h2⟩ | ⟨h1, h2⟩
  · rw [h1]
    rw [List.any_eq_true] at h2
    obtain ⟨x, hx, hq⟩ := h2
    have : n ∈ l := by have := of_decide_eq_true hq; rw [← this]; exact hx
    simp [this]
  · rw [h1]
    rw [List.any_eq_false] at h2
    have : n ∉ l := fun h => by have := h2 n h; simp at this
    simp [this]
theorem lhas_eq {l : List Int} (hl : l.length ≤ 1099511627776) (n : Int) : law11_has l n = some (decide (n ∈ l)) := rhas_eq hl n
theorem rput_eq {l : List Int} (hl : l.length ≤ 100000000) (hs : Srt l) (n : Int) : ref11_put l n = some (putM l n) := by
  unfold ref11_put
  rw [rhas_eq (by omega)]
  simp only [Option.bind_some]
  by_cases hn : n ∈ l
  · rw [if_pos (by simpa using hn)]
    refine congrArg some (srt_ext hs (putM_srt hs n) (fun x => ?_))
    rw [putM_mem]
    refine ⟨.inr, fun h => h.elim (fun h => ?_) id⟩
    rw [h]; exact hn
  · rw [if_neg (by simpa using hn)]
    have key : ∀ (m k : Nat), k + m = l.length → (∀ x ∈ l.take k, x < n) → ∃ j : Nat, loop (fun (s147 : Int) => ref11_put_l2 l n s147) (k : Int) = some (j : Int) ∧ j ≤ l.length ∧ (∀ x ∈ l.take j, x < n) ∧ (∀ x ∈ l.drop j, n < x) := by
      intro m
      induction m with
      | zero =>
        intro k hk hx
        have : k = l.length := by omega
        subst this
        refine ⟨l.length, loop_inr ?_, by omega, hx, by simp⟩
        unfold ref11_put_l2
        rw [if_neg (by simp)]
        rfl
      | succ m ih =>
        intro k hk hx
        have hlt : k < l.length := by omega
        by_cases h : l[k] < n
        · obtain ⟨j, g⟩ := ih (k + 1) (by omega) (fun x hx2 => by
            rcases (mem_take_succ (List.getElem?_eq_getElem hlt) x).1 hx2 with h2 | rfl
            · exact hx x h2
            · exact h)
          refine ⟨j, ?_, g.2⟩
          rw [loop_inl (s' := ((k + 1 : Nat) : Int))]
          · exact g.1
          · unfold ref11_put_l2
            rw [if_pos (by simpa using hlt), ix_in hlt]
            simp only [Option.bind_some]
            rw [if_pos (by simpa using h), IntWalk.i64_in _ ⟨by omega, by omega⟩]
            rfl
        · refine ⟨k, loop_inr ?_, by omega, hx, fun x hx2 => ?_⟩
          · unfold ref11_put_l2
            rw [if_pos (by simpa using hlt), ix_in hlt]
            simp only [Option.bind_some]
            rw [if_neg (by simpa using h)]
          · have hne : l[k] ≠ n := fun e => hn (e ▸ List.getElem_mem hlt)
            obtain ⟨i, hi, rfl⟩ := List.mem_iff_getElem.1 hx2
            rw [List.length_drop] at hi
            rw [List.getElem_drop]
            have := le_at (l := l) (hs.imp fun h => by omega) (i := k) (j := k + i) (by omega) (by omega)
            omega
    obtain ⟨j, k1, k2, k3, k4⟩ := key l.length 0 (by omega) (by simp)
    have k1' : loop (fun (s147 : Int) => ref11_put_l2 l n s147) (0 : Int) = some (j : Int) := k1
    rw [k1']
    simp only [Option.bind_some]
    have c1 : cut l 0 (j : Int) = l.take j := by simp [cut]
    have c2 : cut l (j : Int) (l.length : Int) = l.drop j := by simp [cut]
    rw [c1, c2, need_pos (by omega), need_pos (by simp; omega), need_pos (by simp; omega), need_pos (by omega), need_pos (by simp; omega)]
    refine congrArg some (srt_ext ?_ (putM_srt hs n) (fun x => ?_))
    · have h1 : Srt (l.take j ++ [n]) := srt_add (hs.sublist (List.take_sublist _ _)) k3
      unfold Srt at h1 ⊢
      rw [List.nil_append, List.pairwise_append]
      refine ⟨h1, hs.sublist (List.drop_sublist _ _), fun a ha b hb => ?_⟩
      have hb2 := k4 b hb
      rcases List.mem_append.1 ha with ha | ha
      · have := k3 a ha; omega
      · simp at ha; omega
    · rw [putM_mem, List.nil_append]
      have : x ∈ l ↔ x ∈ l.take j ∨ x ∈ l.drop j := by rw [← List.mem_append, List.take_append_drop]
      rw [this, List.mem_append, List.mem_append, List.mem_singleton]
      constructor
      · rintro ((h | h) | h)
        · exact .inr (.inl h)
        · exact .inl h
        · exact .inr (.inr h)
      · rintro (h | h | h)
        · exact .inl (.inr h)
        · exact .inl (.inl h)
        · exact .inr h
theorem rafter_eq {l : Locks} (hl : LOk l) (hs : LSm l) (t : Int) : ref11_After l t = some (afterM l t) := by
  have b1 := hl.queL
  obtain ⟨s1, s2⟩ := hs
  have hul := uniL_len l
  obtain ⟨y, h1, h2, h3⟩ := inv_loop (ρ := List Int) l.Queue (fun k (s : List Int) => (s, (k : Int))) (fun (s612 : (List Int) × Int) => ref11_After_l17 l t s612.1 s612.2) (fun s => s)
    (fun k s => (∀ x, x ∈ s ↔ ∃ i c, i < k ∧ l.Queue[i]? = some c ∧ c.Txn = t ∧ x ∈ blockM l t c.W i) ∧ Srt s)
    (fun k c s hk hi => by
      have hlt := (List.getElem?_eq_some_iff.1 hk).1
      have hx := (List.getElem?_eq_some_iff.1 hk).2
      obtain ⟨i1, i2⟩ := hi
      have hsu : ∀ x ∈ s, x ∈ uniL l := fun x hx => by
        obtain ⟨i, c, _, _, _, h⟩ := (i1 x).1 hx
        exact blockM_uni h
      by_cases h : c.Txn = t
      · have hb := blockM_len l t c.W k
        obtain ⟨y, j1, j2, j3⟩ := inv_loop (ρ := List Int) (blockM l t c.W k) (fun j (s : List Int) => (s, (j : Int))) (fun (s723 : (List Int) × Int) => ref11_After_l20 (blockM l t c.W k) s723.1 s723.2) (fun s => s)
          (fun j s2 => (∀ x, x ∈ s2 ↔ x ∈ s ∨ x ∈ (blockM l t c.W k).take j) ∧ Srt s2)
          (fun j x s2 hj hi2 => by
            have hlt2 := (List.getElem?_eq_some_iff.1 hj).1
            obtain ⟨m1, m2⟩ := hi2
            have hl2 : s2.length ≤ (uniL l).length := nodup_len (srt_nodup m2) (fun z hz => by
              rcases (m1 z).1 hz with h | h
              · exact hsu z h
              · exact blockM_uni (List.mem_of_mem_take h))
            refine ⟨putM s2 x, ?_, fun z => ?_, putM_srt m2 x⟩
            · simp only
              unfold ref11_After_l20
              rw [if_pos (by simpa using hlt2), ix_in hlt2, (List.getElem?_eq_some_iff.1 hj).2]
              simp only [Option.bind_some]
              rw [rput_eq (by omega) m2, IntWalk.i64_in _ ⟨by omega, by omega⟩]
              rfl
            · rw [putM_mem, m1, mem_take_succ hj]
              constructor
              · rintro (h | h | h)
                · exact .inr (.inr h)
                · exact .inl h
                · exact .inr (.inl h)
              · rintro (h | h | h)
                · exact .inr (.inl h)
                · exact .inr (.inr h)
                · exact .inl h)
          (fun s2 _ => by
            simp only
            unfold ref11_After_l20
            rw [if_neg (by simp)]) s ⟨fun x => by simp, i2⟩
        have j1' : loop (fun (s723 : (List Int) × Int) => ref11_After_l20 (blockM l t c.W k) s723.1 s723.2) (s, (0 : Int)) = some y := j1
        rw [List.take_length] at j2
        refine ⟨y, ?_, fun x => ?_, j3⟩
        · simp only
          unfold ref11_After_l17
          rw [if_pos (by simpa using hlt), ix_in hlt, hx]
          simp only [Option.bind_some]
          rw [if_neg (by simpa using h), rblockers_eq hl t (hl.que c (List.mem_of_getElem? hk)).2 _ (by omega), Int.toNat_natCast]
          simp only [Option.bind_some]
          rw [j1', IntWalk.i64_in _ ⟨by omega, by omega⟩]
          rfl
        · rw [j2, i1]
          constructor
          · rintro (⟨i, c2, g1, g2⟩ | g)
            · exact ⟨i, c2, by omega, g2⟩
            · exact ⟨k, c, by omega, hk, h, g⟩
          · rintro ⟨i, c2, g1, g2, g3, g4⟩
            by_cases hik : i = k
            · subst hik; rw [hk] at g2; cases g2; exact .inr g4
            · exact .inl ⟨i, c2, by omega, g2, g3, g4⟩
      · refine ⟨s, ?_, fun x => ?_, i2⟩
        · simp only
          unfold ref11_After_l17
          rw [if_pos (by simpa using hlt), ix_in hlt, hx]
          simp only [Option.bind_some]
          rw [if_pos (by simpa using h), IntWalk.i64_in _ ⟨by omega, by omega⟩]
          rfl
        · rw [i1]
          constructor
          · rintro ⟨i, c2, g1, g2⟩
            exact ⟨i, c2, by omega, g2⟩
          · rintro ⟨i, c2, g1, g2, g3, g4⟩
            by_cases hik : i = k
            · subst hik; rw [hk] at g2; cases g2; exact absurd g3 h
            · exact ⟨i, c2, by omega, g2, g3, g4⟩)
    (fun s _ => by
      simp only
      unfold ref11_After_l17
      rw [if_neg (by simp)]) [] ⟨fun x => by simp, List.Pairwise.nil⟩
  have h1' : loop (fun (s612 : (List Int) × Int) => ref11_After_l17 l t s612.1 s612.2) (([] : (List Int)), (0 : Int)) = some y := h1
  unfold ref11_After
  rw [h1']
  refine congrArg some (setM_eq h3 (fun x => ?_) (fun x h => edge_uni h))
  rw [h2]
  constructor
  · rintro ⟨i, c, _, g⟩; exact ⟨i, c, g⟩
  · rintro ⟨i, c, g⟩; exact ⟨i, c, (List.getElem?_eq_some_iff.1 g.1).1, g⟩
end Go.Ab
