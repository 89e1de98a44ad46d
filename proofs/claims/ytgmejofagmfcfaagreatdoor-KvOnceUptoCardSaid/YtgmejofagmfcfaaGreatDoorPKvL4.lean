/- The law of tokens that were decided (plain). -/
import Derived.Test.YtgmejofagmfcfaaGreatDoorPHs
namespace Go.Ab
set_option linter.unusedVariables false
set_option linter.unusedSimpArgs false

noncomputable abbrev onceS (w : KvOnceIn) := fun (s1 : Int × (List File) × Int × Int × Bool × Int × Int × Int × (List Pair) × (List Pair) × Bool) => law08_KvOnce_l2 w s1.1 s1.2.1 s1.2.2.1 s1.2.2.2.1 s1.2.2.2.2.1 s1.2.2.2.2.2.1 s1.2.2.2.2.2.2.1 s1.2.2.2.2.2.2.2.1 s1.2.2.2.2.2.2.2.2.1 s1.2.2.2.2.2.2.2.2.2.1 s1.2.2.2.2.2.2.2.2.2.2
def compS (x : Store) : (List File) × Int × Int × Bool × Int × Int × Int × (List Pair) × (List Pair) × Bool := (x.D.Files, x.D.Room, x.D.Fuse, x.D.Off, x.From, x.Seg, x.Run, x.S.Data, x.S.Toks, x.Down)
theorem once_loop (w : KvOnceIn) {x : Store} (h : KOk x []) (hs : SBd x.S 0) : ∃ y tl, loop (onceS w) ((0 : Int), compS x) = some (compS y) ∧ KOk y tl ∧ SBd y.S 100 := by
  obtain ⟨r, h1, y, tl, h2, h3, h4⟩ := rounds_loop (onceS w) (fun k s => ∃ y tl, s = ((k : Int), compS y) ∧ KOk y tl ∧ SBd y.S k) (fun r => ∃ y tl, r = compS y ∧ KOk y tl ∧ SBd y.S 100) 100
    (fun k s hk ⟨y, tl, e, k1, k2⟩ => by
      subst e
      by_cases c : k < w.L.length
      · have hg := List.getElem?_eq_getElem c
        obtain ⟨t2, k3⟩ := k1.commit w.L[k]
        refine .inl ⟨_, ?_, (commitK y w.L[k]).1, t2, rfl, k3, commit_bd k2 _⟩
        simp only [onceS, compS]
        unfold law08_KvOnce_l2
        rw [if_pos (show (decide ((k : Int) < (w.L.length : Int)) && decide ((k : Int) < 100)) = true by simp; omega), ix_at hg]
        simp only [Option.bind_some]
        rw [store_eta y, commit_eqK (k1.sto k2 (by omega)), IntWalk.i64_in _ ⟨by omega, by omega⟩]
        rfl
      · refine .inr ⟨_, ?_, y, tl, rfl, k1, k2.mono (by omega)⟩
        simp only [onceS, compS]
        unfold law08_KvOnce_l2
        rw [if_neg (by simp; omega)])
    (fun s ⟨y, tl, e, k1, k2⟩ => by
      subst e
      refine ⟨_, ?_, y, tl, rfl, k1, k2⟩
      simp only [onceS, compS]
      unfold law08_KvOnce_l2
      rw [if_neg (by simp)]) (s := ((0 : Int), compS x)) ⟨x, [], rfl, h, hs⟩
  exact ⟨y, tl, by rw [h1, h2], h3, h4⟩
theorem again_there {x : Store} (hd : x.Down = false) {b : Batch} (hm : mayB b = true) (hk : hasK x.S.Toks b.Token = true) : commitK x b = (x, 8) := by
  unfold commitK
  rw [if_neg (by simp [hd]), if_neg (by unfold bytesB; rw [if_pos hm]; simp), if_pos hk]
theorem commit_done {x : Store} {b : Batch} (h : (commitK x b).2 = 0) : (commitK x b).1.Down = false ∧ hasK (commitK x b).1.S.Toks b.Token = true := by
  have hst := (commit_state x b).2 h
  rw [hst.1]
  have h8 := hst.2
  constructor
  · unfold commitK at h ⊢
    split at h
    · simp at h
    rename_i c1
    rw [if_neg c1]
    split at h
    · rename_i c; exact absurd h c
    rename_i c2
    rw [if_neg c2]
    split at h
    · simp at h
    rename_i c3
    rw [if_neg c3]
    split at h
    · rename_i c; exact absurd h c
    rename_i c4
    rw [if_neg c4]
    split at h
    · rename_i c; exact absurd h c
    rename_i c5
    rw [if_neg c5]
  · unfold doB at h8 ⊢
    split at h8
    · simp at h8
    rename_i c1
    rw [if_neg c1]
    split at h8
    · simp at h8
    rename_i c2
    rw [if_neg c2]
    simp only
    rw [putP_has]; simp
theorem law08_KvOnce_true (w : KvOnceIn) (o : okKvOnceIn w) (hb : bkKvOnceIn w ≤ 1048576) : law08_KvOnce w = some true := by
  unfold okKvOnceIn at o
  unfold bkKvOnceIn at hb
  have hroom : In64 w.Room := i64_of o.1
  have hdb := new_db hroom
  have hbo : BOk w.Again := fun x hx => by
    have e : bkBatch w.Again ≤ 1048576 := by omega
    unfold bkBatch at e
    have := sumOf_mem (f := fun v => bkWrite v) hx
    have e2 : x.Key.length ≤ bkWrite x := by unfold bkWrite; omega
    omega
  unfold law08_KvOnce
  rw [shown08, rnew_eq]
  simp only [Option.bind_some]
  rw [open_eqK hdb]
  simp only [Option.bind_some]
  by_cases h0 : w.Room < 0
  · have e : (newM w.Room).2 = 1 := by unfold newM; rw [if_pos h0]
    rw [if_pos (by simp [e])]
    simp [e]
  · have e : (newM w.Room).2 = 0 := by unfold newM; rw [if_neg h0]
    obtain ⟨y, o1, o2, o3, o4, _⟩ := KOk.new hroom (by omega)
    rw [o1, if_neg (by simp [e])]
    obtain ⟨z, tl, l1, l2, l3⟩ := once_loop w o2 (by rw [o3]; exact no_SBd)
    simp only [onceS, compS] at l1
    rw [l1]
    simp only [Option.bind_some]
    rw [store_eta z, commit_eqK (l2.sto l3 (by omega))]
    simp only [Option.bind_some]
    rw [rbmay_eq (b := ⟨w.Again.Kind, w.B.Token, w.Again.Writes⟩) hbo]
    simp only [Option.bind_some]
    by_cases c : (commitK z w.B).2 = 0
    · cases hm : mayB ⟨w.Again.Kind, w.B.Token, w.Again.Writes⟩ with
      | false => rw [if_pos (by simp)]
      | true =>
        rw [if_neg (by simp [c])]
        obtain ⟨t2, k2⟩ := l2.commit w.B
        have hbd := commit_bd l3 w.B
        obtain ⟨d1, d2⟩ := commit_done c
        have ht : t2 = [] := by obtain ⟨b, r, pre, cur, q1, q2⟩ := k2.disk; exact (q2 d1).1
        subst ht
        rw [commit_eqK (k2.sto hbd (by omega)), again_there d1 hm d2, crash_eqK k2.db]
        simp only [Option.bind_some]
        rcases k2.crash [] with ⟨g, _⟩ | ⟨v, v1, v2, v3, v4, v5⟩
        · exact absurd rfl g
        · rw [v1]
          simp only
          have hbd2 : SBd v.S 101 := by rw [v4]; exact hbd
          rw [commit_eqK (v3.sto hbd2 (by omega)), again_there v5 hm (by rw [v4]; exact d2)]
          simp only [Option.bind_some]
          rw [rsamesto_eq k2.db.ok.len (hbd.ok (by omega)).1]
          simp
    · rw [if_pos (by simp [c])]
end Go.Ab
