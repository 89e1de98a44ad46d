/- Whom one reaches: program and document alike (plain). -/
import Derived.Test.YtdoceelfokmhfaaPRg2
namespace Go.Ab
set_option linter.unusedVariables false
set_option linter.unusedSimpArgs false

theorem reach1_eq {l : Locks} (hl : LOk l) (hs : LSm l) (t : Int) : ring_Reach_1 t l = some (afterM l t) := by
  unfold ring_Reach_1; rw [after_eq hl hs]; rfl
theorem reach_in1 {l : Locks} (hl : LOk l) (hs : LSm l) {had row : List Int} (hn : had.Nodup) (h1 : ∀ x ∈ had, x ∈ uniL l) (h2 : ∀ x ∈ row, x ∈ uniL l) (h3 : row.length ≤ 8000000000000) :
    ∃ had2 todo : List Int, loop (fun (s6468 : Int × (List Int) × (List Int)) => ring_Reach_l91 row s6468.1 s6468.2.1 s6468.2.2) ((0 : Int), had, ([] : List Int)) = some (had2, todo) ∧
      had2.Nodup ∧ todo.Nodup ∧ (∀ x, x ∈ had2 ↔ x ∈ had ∨ x ∈ row) ∧ (∀ x, x ∈ todo ↔ x ∈ row ∧ x ∉ had) := by
  have hul := uniL_len l
  have s1 := hs.1
  obtain ⟨y, g1, g2, g3, g4, g5⟩ := inv_loop (ρ := List Int × List Int) row (fun k (s : List Int × List Int) => ((k : Int), s.1, s.2)) (fun (s6468 : Int × (List Int) × (List Int)) => ring_Reach_l91 row s6468.1 s6468.2.1 s6468.2.2) (fun s => s)
    (fun k s => s.1.Nodup ∧ s.2.Nodup ∧ (∀ x, x ∈ s.1 ↔ x ∈ had ∨ x ∈ row.take k) ∧ (∀ x, x ∈ s.2 ↔ x ∈ row.take k ∧ x ∉ had))
    (fun k x s hk hi => by
      have hlt := (List.getElem?_eq_some_iff.1 hk).1
      have hx := (List.getElem?_eq_some_iff.1 hk).2
      obtain ⟨i1, i2, i3, i4⟩ := hi
      have hxu : x ∈ uniL l := h2 x (List.mem_of_getElem? hk)
      have hx64 := uni_in hl hxu
      have l1 : s.1.length ≤ (uniL l).length := nodup_len i1 (fun z hz => ((i3 z).1 hz).elim (h1 z) (fun h => h2 z (List.mem_of_mem_take h)))
      have l2 : s.2.length ≤ (uniL l).length := nodup_len i2 (fun z hz => h2 z (List.mem_of_mem_take ((i4 z).1 hz).1))
      by_cases hm : x ∈ s.1
      · refine ⟨s, ?_, i1, i2, fun z => ?_, fun z => ?_⟩
        · simp only
          unfold ring_Reach_l91
          rw [if_pos (by simpa using hlt), ix_in hlt, hx]
          simp only [Option.bind_some]
          rw [need_pos hx64, if_neg (by simpa using hm), IntWalk.i64_in _ ⟨by omega, by omega⟩]
          rfl
        · rw [i3, mem_take_succ hk]
          refine ⟨fun h => h.elim .inl (fun h => .inr (.inl h)), fun h => h.elim .inl (fun h => h.elim .inr (fun h => ?_))⟩
          rw [h]; exact (i3 x).1 hm
        · rw [i4, mem_take_succ hk]
          refine ⟨fun h => ⟨.inl h.1, h.2⟩, fun h => ⟨h.1.elim id (fun e => ?_), h.2⟩⟩
          rw [e]
          exact ((i3 x).1 hm).elim (fun h2 => absurd (e ▸ h2) h.2) id
      · refine ⟨(insI s.1 x, insI s.2 x), ?_, insI_nodup i1 x, insI_nodup i2 x, fun z => ?_, fun z => ?_⟩
        · simp only
          unfold ring_Reach_l91
          rw [if_pos (by simpa using hlt), ix_in hlt, hx]
          simp only [Option.bind_some]
          rw [need_pos hx64, if_pos (by simpa using hm), need_pos ⟨hx64, by omega⟩, need_pos ⟨hx64, by omega⟩, IntWalk.i64_in _ ⟨by omega, by omega⟩]
          rfl
        · rw [insI_mem, i3, mem_take_succ hk]
          constructor
          · rintro (h | h | h)
            · exact .inr (.inr h)
            · exact .inl h
            · exact .inr (.inl h)
          · rintro (h | h | h)
            · exact .inr (.inl h)
            · exact .inr (.inr h)
            · exact .inl h
        · rw [insI_mem, i4, mem_take_succ hk]
          constructor
          · rintro (h | h)
            · refine ⟨.inr h, fun h2 => hm ((i3 x).2 (.inl (h ▸ h2)))⟩
            · exact ⟨.inl h.1, h.2⟩
          · rintro ⟨h | h, h2⟩
            · exact .inr ⟨h, h2⟩
            · exact .inl h)
    (fun s _ => by
      simp only
      unfold ring_Reach_l91
      rw [if_neg (by simp)]) (had, []) ⟨hn, List.nodup_nil, fun x => by simp, fun x => by simp⟩
  rw [List.take_length] at g4 g5
  exact ⟨y.1, y.2, g1, g2, g3, g4, g5⟩
theorem reach_in2 {l : Locks} (hl : LOk l) (hs : LSm l) {had todo : List Int} (hn : todo.Nodup) (h1 : ∀ x ∈ todo, x ∈ uniL l) :
    ∃ row : List Int, loop (fun (s6537 : Int × (List Int) × (List Int)) => ring_Reach_l92 l (had, todo) s6537.1 s6537.2.1 s6537.2.2) ((0 : Int), todo, ([] : (List Int))) = some ([], row) ∧
      (∀ x, x ∈ row ↔ ∃ t ∈ todo, EdgeL l t x) ∧ row.length ≤ 8000000000000 := by
  have hul := uniL_len l
  have s1 := hs.1
  have ht : todo.length ≤ (uniL l).length := nodup_len hn h1
  have hml : (todo.mergeSort leI).length = todo.length := List.length_mergeSort ..
  have hnq : (todo.mergeSort leI).Nodup := (List.mergeSort_perm todo leI).nodup_iff.2 hn
  obtain ⟨y, g1, g2, g3, g4⟩ := inv_loop (ρ := List Int × List Int) (todo.mergeSort leI) (fun k (s : List Int × List Int) => ((k : Int), s.1, s.2)) (fun (s6537 : Int × (List Int) × (List Int)) => ring_Reach_l92 l (had, todo) s6537.1 s6537.2.1 s6537.2.2) (fun s => s)
    (fun k s => (∀ x, x ∈ s.1 ↔ x ∈ (todo.mergeSort leI).drop k) ∧ (∀ x, x ∈ s.2 ↔ ∃ t ∈ (todo.mergeSort leI).take k, EdgeL l t x) ∧ s.2.length ≤ k * (l.Held.length + l.Queue.length))
    (fun k x s hk hi => by
      have hlt := (List.getElem?_eq_some_iff.1 hk).1
      have hx := (List.getElem?_eq_some_iff.1 hk).2
      obtain ⟨i1, i2, i3⟩ := hi
      have hxt : x ∈ todo := by have := List.mem_of_getElem? hk; rwa [List.mem_mergeSort] at this
      have hx64 := uni_in hl (h1 x hxt)
      have hal := afterM_len (l := l) x
      have hmul : k * (l.Held.length + l.Queue.length) ≤ 2000000 * 2000000 := Nat.mul_le_mul (by omega) s1
      refine ⟨(delI s.1 x, s.2 ++ afterM l x), ?_, fun z => ?_, fun z => ?_, ?_⟩
      · simp only
        unfold ring_Reach_l92
        rw [if_pos (by simp only [decide_eq_true_eq]; omega), ix_in hlt, hx]
        simp only [Option.bind_some]
        rw [need_pos hx64, reach1_eq hl hs]
        simp only [Option.bind_some]
        rw [need_pos (by omega), IntWalk.i64_in _ ⟨by omega, by omega⟩]
        rfl
      · rw [delI_mem, i1, List.drop_eq_getElem_cons hlt, hx, List.mem_cons]
        have hnd : x ∉ (todo.mergeSort leI).drop (k + 1) := by
          have h := hnq.sublist (List.drop_sublist k _)
          rw [List.drop_eq_getElem_cons hlt, hx] at h
          exact (List.nodup_cons.1 h).1
        constructor
        · rintro ⟨h | h, h2⟩
          · exact absurd h h2
          · exact h
        · intro h
          exact ⟨.inr h, fun e => hnd (e ▸ h)⟩
      · rw [List.mem_append, i2, afterM_mem]
        constructor
        · rintro (⟨t, h, h2⟩ | h)
          · exact ⟨t, (mem_take_succ hk t).2 (.inl h), h2⟩
          · exact ⟨x, (mem_take_succ hk x).2 (.inr rfl), h⟩
        · rintro ⟨t, h, h2⟩
          rcases (mem_take_succ hk t).1 h with h | rfl
          · exact .inl ⟨t, h, h2⟩
          · exact .inr h2
      · rw [List.length_append, Nat.succ_mul]; omega)
    (fun s _ => by
      simp only
      unfold ring_Reach_l92
      rw [if_neg (by simp)]) (todo, []) ⟨fun x => by simp, fun x => by simp, by simp⟩
  have e1 : y.1 = [] := List.eq_nil_iff_forall_not_mem.2 (fun x hx => by
    have h := (g2 x).1 hx
    rw [List.drop_length] at h
    cases h)
  rw [List.take_length] at g3
  refine ⟨y.2, ?_, fun x => ?_, ?_⟩
  · exact g1.trans (congrArg some (show y = ([], y.2) from Prod.ext e1 rfl))
  · rw [g3]
    constructor
    · rintro ⟨t, h, h2⟩; exact ⟨t, by rwa [List.mem_mergeSort] at h, h2⟩
    · rintro ⟨t, h, h2⟩; exact ⟨t, by rwa [List.mem_mergeSort], h2⟩
  · have hmul : (todo.mergeSort leI).length * (l.Held.length + l.Queue.length) ≤ 2000000 * 2000000 := Nat.mul_le_mul (by omega) s1
    omega
structure Good (l : Locks) (t : Int) (had row : List Int) : Prop where
  nd : had.Nodup
  h1 : ∀ x ∈ had, RchL l t x
  h2 : ∀ x ∈ row, RchL l t x
  h3 : ∀ x, EdgeL l t x → x ∈ had ∨ x ∈ row
  h4 : ∀ x ∈ had, ∀ y, EdgeL l x y → y ∈ had ∨ y ∈ row
  len : row.length ≤ 8000000000000
theorem good_end {l : Locks} {t : Int} {had : List Int} (g : Good l t had []) (x : Int) : x ∈ had ↔ RchL l t x := by
  refine ⟨g.h1 x, fun h => ?_⟩
  induction h with
  | one h => exact (g.h3 _ h).elim id (fun h => by cases h)
  | more _ h ih => exact (g.h4 _ ih _ h).elim id (fun h => by cases h)
theorem same0 : ring_Reach_l97 = ring_Reach_l91 := rfl
theorem same1 : ring_Reach_l98 = ring_Reach_l92 := rfl
theorem round {l : Locks} (hl : LOk l) (hs : LSm l) {t : Int} {had row : List Int} (g : Good l t had row) (hr : row ≠ []) (other : List Int) :
    ∃ had2 row2, ring_Reach_l86 l 0 had [] row other = some (.inl (1, had2, [], row, row2)) ∧ ring_Reach_l86 l 1 had [] other row = some (.inl (0, had2, [], row2, row)) ∧ Good l t had2 row2 ∧ (row2 = [] ∨ had.length < had2.length) := by
  have hul := uniL_len l
  have s1 := hs.1
  have hu2 : ∀ x ∈ row, x ∈ uniL l := fun x hx => rch_uni (g.h2 x hx)
  obtain ⟨had2, todo, a1, a2, a3, a4, a5⟩ := reach_in1 hl hs g.nd (fun x hx => rch_uni (g.h1 x hx)) hu2 g.len
  have htu : ∀ x ∈ todo, x ∈ uniL l := fun x hx => hu2 x ((a5 x).1 hx).1
  obtain ⟨row2, b1, b2, b3⟩ := reach_in2 (had := had2) hl hs a3 htu
  have htl : todo.length ≤ (uniL l).length := nodup_len a3 htu
  have hpos := List.length_pos_iff.2 hr
  refine ⟨had2, row2, ?_, ?_, ⟨a2, fun x hx => ?_, fun x hx => ?_, fun x hx => ?_, fun x hx y hy => ?_, b3⟩, ?_⟩
  · unfold ring_Reach_l86
    rw [need_pos (by omega), if_pos (by decide), if_pos (by simp only [decide_eq_true_eq]; omega)]
    simp only [Option.bind_some]
    rw [a1]
    simp only [Option.bind_some]
    rw [need_pos (by omega), b1]
    rfl
  · unfold ring_Reach_l86
    rw [same0, same1, need_pos (by omega), if_neg (by decide), if_pos (by simp only [decide_eq_true_eq]; omega)]
    simp only [Option.bind_some]
    rw [a1]
    simp only [Option.bind_some]
    rw [need_pos (by omega), b1]
    rfl
  · exact ((a4 x).1 hx).elim (g.h1 x) (g.h2 x)
  · obtain ⟨z, hz, he⟩ := (b2 x).1 hx
    exact .more (g.h2 z ((a5 z).1 hz).1) he
  · exact .inl ((a4 x).2 (g.h3 x hx))
  · rcases (a4 x).1 hx with h | h
    · exact .inl ((a4 y).2 (g.h4 x h y hy))
    · by_cases hh : x ∈ had
      · exact .inl ((a4 y).2 (g.h4 x hh y hy))
      · exact .inr ((b2 y).2 ⟨x, (a5 x).2 ⟨h, hh⟩, hy⟩)
  · by_cases ht : todo = []
    · left
      refine List.eq_nil_iff_forall_not_mem.2 (fun x hx => ?_)
      obtain ⟨z, hz, _⟩ := (b2 x).1 hx
      rw [ht] at hz; cases hz
    · right
      obtain ⟨z, hz⟩ := mem_ne.2 ht
      have hz2 := (a5 z).1 hz
      have := nodup_len (a := z :: had) (u := had2) (List.nodup_cons.2 ⟨hz2.2, g.nd⟩) (fun x hx => by
        rcases List.mem_cons.1 hx with rfl | hx
        · exact (a4 _).2 (.inr hz2.1)
        · exact (a4 _).2 (.inl hx))
      simp only [List.length_cons] at this
      omega
theorem reach_stop (l : Locks) (had other : List Int) : ring_Reach_l86 l 0 had [] [] other = some (.inr had) ∧ ring_Reach_l86 l 1 had [] other [] = some (.inr had) := by
  constructor
  · unfold ring_Reach_l86
    rw [need_pos (by omega), if_pos (by decide), if_neg (by simp)]
    rfl
  · unfold ring_Reach_l86
    rw [need_pos (by omega), if_neg (by decide), if_neg (by simp)]
    rfl
theorem reach_out {l : Locks} (hl : LOk l) (hs : LSm l) {t : Int} : ∀ (m : Nat) (had row other : List Int), (uniL l).length < had.length + m → Good l t had row →
    (∃ h2, loop (fun (s6093 : Int × (List Int) × (List Int) × (List Int) × (List Int)) => ring_Reach_l86 l s6093.1 s6093.2.1 s6093.2.2.1 s6093.2.2.2.1 s6093.2.2.2.2) ((0 : Int), had, ([] : List Int), row, other) = some h2 ∧ Good l t h2 []) ∧
    (∃ h2, loop (fun (s6093 : Int × (List Int) × (List Int) × (List Int) × (List Int)) => ring_Reach_l86 l s6093.1 s6093.2.1 s6093.2.2.1 s6093.2.2.2.1 s6093.2.2.2.2) ((1 : Int), had, ([] : List Int), other, row) = some h2 ∧ Good l t h2 []) := by
  intro m
  induction m with
  | zero =>
    intro had row other hm g
    have := nodup_len g.nd (fun x hx => rch_uni (g.h1 x hx))
    omega
  | succ m ih =>
    intro had row other hm g
    by_cases hr : row = []
    · subst hr
      exact ⟨⟨had, loop_inr (reach_stop l had other).1, g⟩, ⟨had, loop_inr (reach_stop l had other).2, g⟩⟩
    · obtain ⟨had2, row2, e1, e2, g2, e3⟩ := round hl hs g hr other
      rcases e3 with rfl | e3
      · exact ⟨⟨had2, (loop_inl e1).trans (loop_inr (reach_stop l had2 row).2), g2⟩, ⟨had2, (loop_inl e2).trans (loop_inr (reach_stop l had2 row).1), g2⟩⟩
      · obtain ⟨⟨p, p1, p2⟩, ⟨q, q1, q2⟩⟩ := ih had2 row2 row (by omega) g2
        exact ⟨⟨q, (loop_inl e1).trans q1, q2⟩, ⟨p, (loop_inl e2).trans p1, p2⟩⟩
theorem reach_eq {l : Locks} (hl : LOk l) (hs : LSm l) (t : Int) : ring_Reach l t = some (reachM l t) := by
  have hul := uniL_len l
  have s1 := hs.1
  have hal := afterM_len (l := l) t
  obtain ⟨⟨h2, e1, g⟩, _⟩ := reach_out hl hs (t := t) ((uniL l).length + 1) [] (afterM l t) [] (by simp) ⟨List.nodup_nil, fun x hx => (by cases hx), fun x hx => .one ((afterM_mem l t x).1 hx), fun x hx => .inr ((afterM_mem l t x).2 hx), fun x hx => (by cases hx), by omega⟩
  unfold ring_Reach
  rw [reach1_eq hl hs]
  simp only [Option.bind_some]
  rw [e1]
  simp only [Option.bind_some]
  have hl2 := nodup_len g.nd (fun x hx => rch_uni (g.h1 x hx))
  rw [need_pos (by omega)]
  have e : reachM l t = h2.mergeSort leI := srt_unique (setM_srt _ _) g.nd (fun x => by rw [good_end g x]; exact reachM_mem l t x)
  rw [e]

/-! ### The document's -/
theorem rreach_in {l : Locks} (hl : LOk l) (hs : LSm l) {out next : List Int} (m0 : Bool) (ho : Srt out) (h1 : ∀ x ∈ out, x ∈ uniL l) (h2 : ∀ x ∈ next, x ∈ uniL l) (h3 : next.length ≤ 2000000) :
    ∃ (o2 : List Int) (m2 : Bool), loop (fun (s3635 : (List Int) × Bool × Int) => ref11_Reach_l44 next s3635.1 s3635.2.1 s3635.2.2) (out, m0, (0 : Int)) = some (o2, m2) ∧ Srt o2 ∧ (∀ x, x ∈ o2 ↔ x ∈ out ∨ x ∈ next) ∧ (m2 = false → m0 = false ∧ ∀ x ∈ next, x ∈ out) ∧ (m2 = true → m0 = true ∨ ∃ x ∈ next, x ∉ out) := by
  have hul := uniL_len l
  have s1 := hs.1
  obtain ⟨y, g1, g2, g3, g4, g5⟩ := inv_loop (ρ := List Int × Bool) next (fun k (s : List Int × Bool) => (s.1, s.2, (k : Int))) (fun (s3635 : (List Int) × Bool × Int) => ref11_Reach_l44 next s3635.1 s3635.2.1 s3635.2.2) (fun s => s)
    (fun k s => Srt s.1 ∧ (∀ x, x ∈ s.1 ↔ x ∈ out ∨ x ∈ next.take k) ∧ (s.2 = false → m0 = false ∧ ∀ x ∈ next.take k, x ∈ out) ∧ (s.2 = true → m0 = true ∨ ∃ x ∈ next.take k, x ∉ out))
    (fun k x s hk hi => by
      have hlt := (List.getElem?_eq_some_iff.1 hk).1
      have hx := (List.getElem?_eq_some_iff.1 hk).2
      obtain ⟨i1, i2, i3, i4⟩ := hi
      have l1 : s.1.length ≤ (uniL l).length := nodup_len (srt_nodup i1) (fun z hz => ((i2 z).1 hz).elim (h1 z) (fun h => h2 z (List.mem_of_mem_take h)))
      by_cases hm : x ∈ s.1
      · refine ⟨s, ?_, i1, fun z => ?_, fun h => ⟨(i3 h).1, fun z hz => ?_⟩, fun h => (i4 h).elim .inl (fun ⟨z, hz, hz2⟩ => .inr ⟨z, (mem_take_succ hk z).2 (.inl hz), hz2⟩)⟩
        · simp only
          unfold ref11_Reach_l44
          rw [if_pos (by simpa using hlt), ix_in hlt, hx]
          simp only [Option.bind_some]
          rw [rhas_eq (by omega)]
          simp only [Option.bind_some]
          rw [if_neg (by simpa using hm), IntWalk.i64_in _ ⟨by omega, by omega⟩]
          rfl
        · rw [i2, mem_take_succ hk]
          refine ⟨fun h => h.elim .inl (fun h => .inr (.inl h)), fun h => h.elim .inl (fun h => h.elim .inr (fun h => ?_))⟩
          rw [h]; exact (i2 x).1 hm
        · rcases (mem_take_succ hk z).1 hz with hz | rfl
          · exact (i3 h).2 z hz
          · exact ((i2 _).1 hm).elim id ((i3 h).2 _)
      · refine ⟨(putM s.1 x, true), ?_, putM_srt i1 x, fun z => ?_, fun h => (by cases h), fun _ => .inr ⟨x, (mem_take_succ hk x).2 (.inr rfl), fun h => hm ((i2 x).2 (.inl h))⟩⟩
        · simp only
          unfold ref11_Reach_l44
          rw [if_pos (by simpa using hlt), ix_in hlt, hx]
          simp only [Option.bind_some]
          rw [rhas_eq (by omega)]
          simp only [Option.bind_some]
          rw [if_pos (by simpa using hm), rput_eq (by omega) i1, IntWalk.i64_in _ ⟨by omega, by omega⟩]
          rfl
        · rw [putM_mem, i2, mem_take_succ hk]
          constructor
          · rintro (h | h | h)
            · exact .inr (.inr h)
            · exact .inl h
            · exact .inr (.inl h)
          · rintro (h | h | h)
            · exact .inr (.inl h)
            · exact .inr (.inr h)
            · exact .inl h)
    (fun s _ => by
      simp only
      unfold ref11_Reach_l44
      rw [if_neg (by simp)]) (out, m0) ⟨ho, fun x => by simp, fun h => ⟨h, fun x hx => by simp at hx⟩, fun h => .inl h⟩
  rw [List.take_length] at g3 g4 g5
  exact ⟨y.1, y.2, g1, g2, g3, g4, g5⟩
theorem rreach_mid {l : Locks} (hl : LOk l) (hs : LSm l) {was : List Int} (ho : Srt was) (h1 : ∀ x ∈ was, x ∈ uniL l) :
    ∃ (o2 : List Int) (m2 : Bool), loop (fun (s3464 : (List Int) × Bool × Int) => ref11_Reach_l42 l was s3464.1 s3464.2.1 s3464.2.2) (was, false, (0 : Int)) = some (o2, m2) ∧ Srt o2 ∧ (∀ x, x ∈ o2 ↔ x ∈ was ∨ ∃ y ∈ was, EdgeL l y x) ∧ (m2 = false → ∀ y ∈ was, ∀ x, EdgeL l y x → x ∈ was) ∧ (m2 = true → ∃ x ∈ o2, x ∉ was) := by
  have hul := uniL_len l
  have s1 := hs.1
  have hwl : was.length ≤ (uniL l).length := nodup_len (srt_nodup ho) h1
  obtain ⟨y, g1, g2, g3, g4, g5⟩ := inv_loop (ρ := List Int × Bool) was (fun k (s : List Int × Bool) => (s.1, s.2, (k : Int))) (fun (s3464 : (List Int) × Bool × Int) => ref11_Reach_l42 l was s3464.1 s3464.2.1 s3464.2.2) (fun s => s)
    (fun k s => Srt s.1 ∧ (∀ x, x ∈ s.1 ↔ x ∈ was ∨ ∃ y ∈ was.take k, EdgeL l y x) ∧ (s.2 = false → ∀ y ∈ was.take k, ∀ x, EdgeL l y x → x ∈ was) ∧ (s.2 = true → ∃ x ∈ s.1, x ∉ was))
    (fun k x s hk hi => by
      have hlt := (List.getElem?_eq_some_iff.1 hk).1
      have hx := (List.getElem?_eq_some_iff.1 hk).2
      obtain ⟨i1, i2, i3, i4⟩ := hi
      have hal := afterM_len (l := l) x
      obtain ⟨o2, m2, c1, c2, c3, c4, c5⟩ := rreach_in hl hs (out := s.1) (next := afterM l x) s.2 i1 (fun z hz => ((i2 z).1 hz).elim (h1 z) (fun ⟨_, _, h⟩ => edge_uni h)) (fun z hz => edge_uni ((afterM_mem l x z).1 hz)) (by omega)
      refine ⟨(o2, m2), ?_, c2, fun z => ?_, fun h y hy z hz => ?_, fun h => ?_⟩
      · simp only
        unfold ref11_Reach_l42
        rw [if_pos (by simpa using hlt), ix_in hlt, hx]
        simp only [Option.bind_some]
        rw [rafter_eq hl hs]
        simp only [Option.bind_some]
        rw [c1, IntWalk.i64_in _ ⟨by omega, by omega⟩]
        rfl
      · rw [c3, i2, afterM_mem]
        constructor
        · rintro ((h | ⟨y, h, h2⟩) | h)
          · exact .inl h
          · exact .inr ⟨y, (mem_take_succ hk y).2 (.inl h), h2⟩
          · exact .inr ⟨x, (mem_take_succ hk x).2 (.inr rfl), h⟩
        · rintro (h | ⟨y, h, h2⟩)
          · exact .inl (.inl h)
          · rcases (mem_take_succ hk y).1 h with h | rfl
            · exact .inl (.inr ⟨y, h, h2⟩)
            · exact .inr h2
      · obtain ⟨d1, d2⟩ := c4 h
        rcases (mem_take_succ hk y).1 hy with hy | rfl
        · exact i3 d1 y hy z hz
        · rcases (i2 z).1 (d2 z ((afterM_mem l _ z).2 hz)) with h5 | ⟨w, hw, hw2⟩
          · exact h5
          · exact i3 d1 w hw z hw2
      · rcases c5 h with h | ⟨z, hz, hz2⟩
        · obtain ⟨z, hz, hz2⟩ := i4 h
          exact ⟨z, (c3 z).2 (.inl hz), hz2⟩
        · exact ⟨z, (c3 z).2 (.inr hz), fun hw => hz2 ((i2 z).2 (.inl hw))⟩)
    (fun s _ => by
      simp only
      unfold ref11_Reach_l42
      rw [if_neg (by simp)]) (was, false) ⟨ho, fun x => by simp, fun h y hy => by simp at hy, fun h => by simp at h⟩
  rw [List.take_length] at g3 g4
  exact ⟨y.1, y.2, g1, g2, g3, g4, g5⟩
theorem rreach_out {l : Locks} (hl : LOk l) (hs : LSm l) {t : Int} : ∀ (m : Nat) (out : List Int), (uniL l).length < out.length + m → Srt out → (∀ x ∈ out, RchL l t x) → (∀ x, EdgeL l t x → x ∈ out) →
    ∃ o2, loop (fun (s3055 : (List Int) × Bool) => ref11_Reach_l37 l s3055.1 s3055.2) (out, true) = some o2 ∧ Srt o2 ∧ (∀ x, x ∈ o2 ↔ RchL l t x) := by
  intro m
  induction m with
  | zero =>
    intro out hm hst h1 h2
    have := nodup_len (srt_nodup hst) (fun x hx => rch_uni (h1 x hx))
    omega
  | succ m ih =>
    intro out hm hst h1 h2
    obtain ⟨o2, m2, c1, c2, c3, c4, c5⟩ := rreach_mid hl hs hst (fun x hx => rch_uni (h1 x hx))
    have hstep : ref11_Reach_l37 l out true = some (.inl (o2, m2)) := by
      unfold ref11_Reach_l37
      rw [if_pos rfl, c1]
      rfl
    have r1 : ∀ x ∈ o2, RchL l t x := fun x hx => ((c3 x).1 hx).elim (h1 x) (fun ⟨y, hy, he⟩ => .more (h1 y hy) he)
    have r2 : ∀ x, EdgeL l t x → x ∈ o2 := fun x hx => (c3 x).2 (.inl (h2 x hx))
    cases m2 with
    | true =>
      obtain ⟨z, hz, hz2⟩ := c5 rfl
      have := nodup_len (a := z :: out) (u := o2) (List.nodup_cons.2 ⟨hz2, srt_nodup hst⟩) (fun x hx => by
        rcases List.mem_cons.1 hx with rfl | hx
        · exact hz
        · exact (c3 _).2 (.inl hx))
      simp only [List.length_cons] at this
      obtain ⟨o3, d1, d2, d3⟩ := ih o2 (by omega) c2 r1 r2
      exact ⟨o3, (loop_inl hstep).trans d1, d2, d3⟩
    | false =>
      have hcl := c4 rfl
      refine ⟨o2, (loop_inl hstep).trans (loop_inr ?_), c2, fun x => ⟨r1 x, fun h => ?_⟩⟩
      · simp only
        unfold ref11_Reach_l37
        rw [if_neg (by simp)]
      · refine (c3 x).2 (.inl ?_)
        induction h with
        | one h => exact h2 _ h
        | more _ h ih2 => exact hcl _ ih2 _ h
theorem rreach_eq {l : Locks} (hl : LOk l) (hs : LSm l) (t : Int) : ref11_Reach l t = some (reachM l t) := by
  obtain ⟨o2, e1, e2, e3⟩ := rreach_out hl hs (t := t) ((uniL l).length + 1) (afterM l t) (by omega) (setM_srt _ _) (fun x hx => .one ((afterM_mem l t x).1 hx)) (fun x hx => (afterM_mem l t x).2 hx)
  unfold ref11_Reach
  rw [rafter_eq hl hs]
  simp only [Option.bind_some]
  rw [e1]
  exact congrArg some (setM_eq e2 e3 (fun x h => rch_uni h))
end Go.Ab
