/- The law of checks (plain). -/
import Derived.Test.YtgmejofagmfcfaaGreatDoorPHs
namespace Go.Ab
set_option linter.unusedVariables false
set_option linter.unusedSimpArgs false

noncomputable abbrev checksS (w : KvChecksIn) := fun (s1 : Int × (List File) × Int × Int × Bool × Int × Int × Int × (List Pair) × (List Pair) × Bool) => law08_KvChecks_l2 w s1.1 s1.2.1 s1.2.2.1 s1.2.2.2.1 s1.2.2.2.2.1 s1.2.2.2.2.2.1 s1.2.2.2.2.2.2.1 s1.2.2.2.2.2.2.2.1 s1.2.2.2.2.2.2.2.2.1 s1.2.2.2.2.2.2.2.2.2.1 s1.2.2.2.2.2.2.2.2.2.2
def compC (x : Store) : (List File) × Int × Int × Bool × Int × Int × Int × (List Pair) × (List Pair) × Bool := (x.D.Files, x.D.Room, x.D.Fuse, x.D.Off, x.From, x.Seg, x.Run, x.S.Data, x.S.Toks, x.Down)
theorem checks_loop (w : KvChecksIn) {x : Store} (h : KOk x []) (hs : SBd x.S 0) (hn : NoFuse x.D) (hd : x.Down = false) : ∃ y tl, loop (checksS w) ((0 : Int), compC x) = some (compC y) ∧ KOk y tl ∧ SBd y.S 100 ∧ y.Down = false := by
  obtain ⟨r, h1, y, tl, h2, h3, h4, h5⟩ := rounds_loop (checksS w) (fun k s => ∃ y tl, s = ((k : Int), compC y) ∧ KOk y tl ∧ SBd y.S k ∧ NoFuse y.D ∧ y.Down = false) (fun r => ∃ y tl, r = compC y ∧ KOk y tl ∧ SBd y.S 100 ∧ y.Down = false) 100
    (fun k s hk ⟨y, tl, e, k1, k2, k3, k4⟩ => by
      subst e
      by_cases c : k < w.L.length
      · have hg := List.getElem?_eq_getElem c
        obtain ⟨t2, k5⟩ := k1.commit w.L[k]
        obtain ⟨n1, n2⟩ := nf_commit k3 k4 w.L[k]
        refine .inl ⟨_, ?_, (commitK y w.L[k]).1, t2, rfl, k5, commit_bd k2 _, n1, n2⟩
        simp only [checksS, compC]
        unfold law08_KvChecks_l2
        rw [if_pos (show (decide ((k : Int) < (w.L.length : Int)) && decide ((k : Int) < 100)) = true by simp; omega), ix_at hg]
        simp only [Option.bind_some]
        rw [store_eta y, commit_eqK (k1.sto k2 (by omega)), IntWalk.i64_in _ ⟨by omega, by omega⟩]
        rfl
      · refine .inr ⟨_, ?_, y, tl, rfl, k1, k2.mono (by omega), k4⟩
        simp only [checksS, compC]
        unfold law08_KvChecks_l2
        rw [if_neg (by simp; omega)])
    (fun s ⟨y, tl, e, k1, k2, k3, k4⟩ => by
      subst e
      refine ⟨_, ?_, y, tl, rfl, k1, k2, k4⟩
      simp only [checksS, compC]
      unfold law08_KvChecks_l2
      rw [if_neg (by simp)]) (s := ((0 : Int), compC x)) ⟨x, [], rfl, h, hs, hn, hd⟩
  exact ⟨y, tl, by rw [h1, h2], h3, h4, h5⟩
theorem law08_KvChecks_true (w : KvChecksIn) (o : okKvChecksIn w) (hb : bkKvChecksIn w ≤ 1048576) : law08_KvChecks w = some true := by
  unfold okKvChecksIn at o
  have hroom : In64 w.Room := i64_of o.1
  have hfuse : In64 w.Fuse := i64_of o.2.2.1
  have hdb := new_db hroom
  unfold law08_KvChecks
  rw [shown08, rnew_eq]
  simp only [Option.bind_some]
  rw [open_eqK hdb]
  simp only [Option.bind_some]
  by_cases h0 : w.Room < 0
  · have e : (newM w.Room).2 = 1 := by unfold newM; rw [if_pos h0]
    rw [if_pos (by simp [e])]
    simp [e]
  · have e : (newM w.Room).2 = 0 := by unfold newM; rw [if_neg h0]
    obtain ⟨y, o1, o2, o3, o4, o5⟩ := KOk.new hroom (by omega)
    have hnf : NoFuse y.D := by
      rw [o5]; unfold newM; rw [if_neg h0]; exact ⟨rfl, rfl⟩
    rw [o1, if_neg (by simp [e])]
    obtain ⟨z, tl, l1, l2, l3, l4⟩ := checks_loop w o2 (by rw [o3]; exact no_SBd) hnf o4
    simp only [checksS, compC] at l1
    rw [l1]
    simp only [Option.bind_some]
    rw [store_eta z, arm_eqK]
    simp only [Option.bind_some]
    have ka := l2.arm hfuse
    have hbd := l3.ok (by omega)
    rw [check_eqK (x := armK z w.Fuse) ka.db hbd.2.1 hbd.2.2 ka.seg ka.run ka.from_]
    simp only [Option.bind_some]
    obtain ⟨⟨t2, k2, k3⟩, _⟩ := ka.check hbd.2.2
    have ht : t2 = [] := k3 l4
    subst ht
    rw [crash_eqK k2.db]
    simp only [Option.bind_some]
    have hS : (checkK (armK z w.Fuse)).1.S = z.S := check_S _
    rcases k2.crash w.Keeps with ⟨g, _⟩ | ⟨v, v1, v2, v3, v4, v5⟩
    · exact absurd rfl g
    · rw [v1]
      simp only
      rw [show (⟨z.S.Data, z.S.Toks⟩ : State) = z.S from rfl, rsamest_eq hbd.1]
      simp only [Option.bind_some]
      rw [hS, rsamest_eq hbd.1, v4, hS]
      simp
end Go.Ab
