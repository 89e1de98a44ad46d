/- The law of runs (plain). -/
import Derived.Test.YtgmejofagmfcfaaGreatDoorPHs
namespace Go.Ab
set_option linter.unusedVariables false
set_option linter.unusedSimpArgs false

def compR (x : Store) : (List File) × Int × Int × Bool × Int × Int × Int × (List Pair) × (List Pair) × Bool := (x.D.Files, x.D.Room, x.D.Fuse, x.D.Off, x.From, x.Seg, x.Run, x.S.Data, x.S.Toks, x.Down)
theorem law08_KvRuns_true (room : Int) (l : List Batch) (orr : okK .i64 room) (ol : ∀ a ∈ l, okBatch a) (b : 1 + (sumOf (fun v => bkBatch v) l + 1) ≤ 1048576) : law08_KvRuns room l = some true := by
  have hroom : In64 room := i64_of orr
  have hdb := new_db hroom
  unfold law08_KvRuns
  rw [shown08, rnew_eq]
  simp only [Option.bind_some]
  rw [open_eqK hdb]
  simp only [Option.bind_some]
  by_cases h0 : room < 0
  · have e : (newM room).2 = 1 := by unfold newM; rw [if_pos h0]
    rw [if_pos (by simp [e])]
    simp [e]
  · have e : (newM room).2 = 0 := by unfold newM; rw [if_neg h0]
    obtain ⟨y, o1, o2, o3, o4, o5⟩ := KOk.new hroom (by omega)
    rw [o1, if_neg (by simp [e])]
    obtain ⟨r, h1, h2⟩ := rounds_loop (fun (s1 : Int × (List File) × Int × Int × Bool × Int × Int × Int × (List Pair) × (List Pair) × Bool) => law08_KvRuns_l2 l true s1.1 s1.2.1 s1.2.2.1 s1.2.2.2.1 s1.2.2.2.2.1 s1.2.2.2.2.2.1 s1.2.2.2.2.2.2.1 s1.2.2.2.2.2.2.2.1 s1.2.2.2.2.2.2.2.2.1 s1.2.2.2.2.2.2.2.2.2.1 s1.2.2.2.2.2.2.2.2.2.2)
      (fun k s => ∃ y tl, s = ((k : Int), compR y) ∧ KOk y tl ∧ SBd y.S k) (fun r => r = .inl true ∨ r = .inr ()) 60
      (fun k s hk ⟨y, tl, e, k1, k2⟩ => by
        subst e
        by_cases c : k < l.length
        · have hg := List.getElem?_eq_getElem c
          obtain ⟨t2, k3⟩ := k1.commit l[k]
          have k4 := commit_bd k2 l[k]
          have hbd := k4.ok (by omega)
          obtain ⟨⟨t3, k5, _⟩, k6⟩ := k3.check hbd.2.2
          have hS := check_S (commitK y l[k]).1
          simp only [compR]
          unfold law08_KvRuns_l2
          rw [if_pos (show (decide ((k : Int) < (l.length : Int)) && decide ((k : Int) < 60)) = true by simp; omega), ix_at hg]
          simp only [Option.bind_some]
          rw [store_eta y, commit_eqK (k1.sto k2 (by omega))]
          simp only [Option.bind_some]
          rw [check_eqK k3.db hbd.2.1 hbd.2.2 k3.seg k3.run k3.from_]
          simp only [Option.bind_some]
          generalize hx : (commitK y l[k]).1 = x at *
          by_cases h0 : (checkK x).2 = 0
          · obtain ⟨a1, a2, a3, a4, a5, a6, a7, a8⟩ := k6 h0
            refine .inl ⟨_, ?_, (checkK x).1, t3, rfl, k5, by rw [hS]; exact k4⟩
            have hsg := k3.seg
            have hrn := k3.run
            have hrm : runNm x.Seg = 114 :: figS x.Seg.toNat := by unfold runNm; rw [if_pos (by omega)]
            have hnm : nameM x.Seg = 119 :: figS x.Seg.toNat := by unfold nameM; rw [if_pos (by rw [mayM_iff]; omega)]
            have hln := runNm_len x.Seg
            rw [if_neg (by simp [h0]), rrunnm_eq]
            simp only [Option.bind_some]
            have hcut : [119] ++ cut (runNm x.Seg) 1 ((runNm x.Seg).length : Int) = nameM x.Seg := by
              rw [hrm, hnm]
              simp [cut]
            rw [need_pos (by rw [hrm]; simp only [List.length_cons]; omega), need_pos (by unfold cut; simp; omega), hcut, rfind_eq k5.db.ok.len]
            simp only [Option.bind_some]
            rw [runnm_eq]
            simp only [Option.bind_some]
            have hR : x.Run < 1000000 := by
              unfold checkK at h0
              split at h0
              · simp at h0
              split at h0
              · simp at h0
              · omega
            rw [rfind_eq k5.db.ok.len]
            simp only [Option.bind_some]
            rw [a7, a8, a1, a2, a3, IntWalk.i64_in (x.Run + 1) ⟨by omega, by omega⟩, IntWalk.i64_in (x.Seg + 1) ⟨by omega, by omega⟩, if_neg (by simp), IntWalk.i64_in _ ⟨by omega, by omega⟩]
            rw [← a3]
            simp only [← a1]
            rfl
          · refine .inr ⟨_, ?_, .inl rfl⟩
            rw [if_pos (by simp [h0]), if_pos trivial, hS, rsamest_eq hbd.1]
            simp
        · refine .inr ⟨_, ?_, .inr rfl⟩
          simp only [compR]
          unfold law08_KvRuns_l2
          rw [if_neg (by simp; omega)])
      (fun s ⟨y, tl, e, k1, k2⟩ => by
        subst e
        refine ⟨_, ?_, .inr rfl⟩
        simp only [compR]
        unfold law08_KvRuns_l2
        rw [if_neg (by simp)]) (s := ((0 : Int), compR y)) ⟨y, [], rfl, o2, by rw [o3]; exact no_SBd⟩
    simp only [compR] at h1
    rw [h1]
    rcases h2 with rfl | rfl <;> rfl
end Go.Ab
