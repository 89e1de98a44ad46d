/- What is shown of the store (plain). -/
import Derived.Test.YtgmejofagmfcfaaGreatDoorPKv2
namespace Go.Ab
set_option linter.unusedVariables false
set_option linter.unusedSimpArgs false

theorem knum {l : Str} {n : Nat} (hv : valF 0 l = n) (hne : l ≠ []) (h0 : 1 < l.length → l[0]? ≠ some 48) (hf : ∀ c ∈ l, isFig c = true) : numS n = l ++ [59] := by
  rw [numS_fig, ← hv, figS_val hne h0 hf]
theorem kname {l : Str} {n : Int} (hm : mayM n = true) (hv : valF 0 l = n.toNat) (hne : l ≠ []) (h0 : 1 < l.length → l[0]? ≠ some 48) (hf : ∀ c ∈ l, isFig c = true) : nameM n = 119 :: l := by
  unfold nameM; rw [if_pos hm, ← hv, figS_val hne h0 hf]
theorem kname1 : nameM 1 = [119, 49] := kname (l := [49]) rfl rfl (by simp) (by simp) (by decide)
theorem kname2 : nameM 2 = [119, 50] := kname (l := [50]) rfl rfl (by simp) (by simp) (by decide)
def kb : Batch := ⟨1, [116], [⟨[97], [49], false⟩]⟩
def krec : Str := [49, 59, 49, 59, 116, 49, 59, 48, 59, 49, 59, 97, 49, 59, 49]
def kseal : Str := [49, 53, 59] ++ krec ++ [52, 55, 56, 56, 48, 54, 57, 50, 54, 59]
theorem kb_may : mayB kb = true := by decide
theorem kb_bytes : bytesB kb = (krec, 0) := by
  unfold bytesB headB
  rw [if_pos kb_may]
  unfold kb textM wsBytes wBytes wsBytes delN textM
  simp only [List.length_cons, List.length_nil, Nat.reduceAdd, show ((1 : Int).toNat) = 1 from rfl, nums1]
  decide
theorem kseal_eq : sealM krec = kseal := by
  unfold sealM textM
  rw [show krec.length = 15 from rfl, knum (l := [49, 53]) (n := 15) (by decide) (by simp) (by simp) (by decide), show sumN krec = 478806926 from by decide, knum (l := [52, 55, 56, 56, 48, 54, 57, 50, 54]) (n := 478806926) (by decide) (by simp) (by simp) (by decide)]
  rfl
def kd0 : Disk := ⟨[], 1000, -1, false⟩
def kd1 : Disk := ⟨[⟨[119, 49], [], kseal⟩], 972, -1, false⟩
def kd2 : Disk := ⟨[⟨[119, 49], kseal, []⟩], 972, -1, false⟩
def ks : State := ⟨[⟨[97], [49]⟩], [⟨[116], [99]⟩]⟩
theorem kdo : doB noState kb = (ks, 0) := by decide
theorem kput : wputM kd0 1 krec = (kd1, 1, 0) := by
  unfold wputM
  rw [kname1, kseal_eq]
  decide
theorem ksync : wsyncM kd1 1 = (kd2, 0) := by
  unfold wsyncM
  rw [kname1]
  decide
theorem kopen0 : openK kd0 = (⟨kd0, 1, 1, 0, noState, false⟩, 0) := by
  have hm : manOf kd0 = (1, 0, 0) := by decide
  have hb : basedM kd0 0 = (noState, 0) := by unfold basedM; rw [if_pos rfl]
  have hr : recoverM kd0 1 = (kd0, [], 1, 0) := by
    unfold recoverM
    rw [if_neg (by decide)]
    show recM kd0 1 (999999 + 1) 1 1 [] = _
    unfold recM
    rw [kname1, if_pos (by decide)]
  unfold openK
  rw [hm]
  simp only
  rw [hb, hr, if_neg (by simp), if_neg (by simp), if_neg (by simp)]
  rfl
theorem kcommit : commitK ⟨kd0, 1, 1, 0, noState, false⟩ kb = (⟨kd2, 1, 1, 0, ks, false⟩, 0) := by
  unfold commitK
  simp only
  rw [kb_bytes]
  simp only
  rw [kput]
  simp only
  rw [ksync]
  simp only
  rw [kdo, if_neg (by simp), if_neg (by simp), if_neg (by decide), if_neg (by simp), if_neg (by simp)]
theorem kscan : scanL kseal = [krec] := by
  have e : kseal = sealAll [krec] ++ [] := by
    simp only [sealAll, kseal_eq, List.append_nil]
  refine scanL_of (r := []) (scanned_of _ _ _ e (fun t ht => ?_) open_nil)
  simp at ht; subst ht; decide
theorem kscanP : scanP kseal = 28 := by
  unfold scanP
  rw [kscan]
  simp only [sealAll, kseal_eq, List.append_nil]
  rfl
theorem kcrash : crashM kd2 [] = kd2 := by decide
theorem kopen2 : openK kd2 = (⟨kd2, 1, 1, 0, ks, false⟩, 0) := by
  have hm : manOf kd2 = (1, 0, 0) := by decide
  have hb : basedM kd2 0 = (noState, 0) := by unfold basedM; rw [if_pos rfl]
  have hr1 : readM kd2 [119, 49] = (kseal, 0) := by decide
  have hr2 : (readM kd2 [119, 50]).2 ≠ 0 := by decide
  have hr : recoverM kd2 1 = (kd2, [krec], 1, 0) := by
    unfold recoverM
    rw [if_neg (by decide)]
    show recM kd2 1 (999998 + 1 + 1) 1 1 [] = _
    unfold recM
    unfold rdM
    rw [kname1, hr1, if_neg (by simp)]
    simp only
    rw [kscanP, kscan, if_neg (by decide)]
    unfold recM
    rw [show ((1 : Int) + 1) = 2 from rfl, kname2, if_pos hr2]
    rfl
  have ht : takeBt krec = (kb, 0) := by
    have := takeB_bytes kb_may
    rw [kb_bytes] at this
    exact this
  unfold openK
  rw [hm]
  simp only
  rw [hb, hr, if_neg (by simp), if_neg (by simp), if_neg (by simp)]
  simp only
  unfold recsM
  rw [ht, if_neg (by simp), kdo]
  rfl
theorem kd0_db : DB kd0 := ⟨⟨by decide, fun f hf => (by cases hf), by decide, by decide⟩, fun f hf => by cases hf⟩
theorem kd2_db : DB kd2 := by
  have b1 := put_db kd0_db 1 krec
  rw [kput] at b1
  have b2 := wsync_db b1 1
  rw [ksync] at b2
  exact b2
theorem shown08 : law08_shown = some true := by
  unfold law08_shown
  rw [rnew_eq]
  simp only [Option.bind_some]
  rw [show (newM 1000).1 = kd0 from rfl, open_eqK kd0_db, kopen0]
  simp only [Option.bind_some]
  rw [show ({ Kind := 1, Token := [116], Writes := [({ Key := [97], Val := [49], Del := false } : Write)] } : Batch) = kb from rfl, commit_eqK ⟨kd0_db, ⟨by simp [noState], by simp [noState]⟩, by decide⟩, kcommit]
  simp only [Option.bind_some]
  rw [crash_eqK kd2_db]
  unfold crashK
  simp only
  rw [kcrash, kopen2]
  rfl
end Go.Ab
