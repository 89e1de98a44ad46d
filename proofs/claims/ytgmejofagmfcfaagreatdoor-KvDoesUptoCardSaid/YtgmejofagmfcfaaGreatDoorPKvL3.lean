/- The law of what is done with a store (plain). -/
import Derived.Test.YtgmejofagmfcfaaGreatDoorPKv5
import Derived.Test.YtgmejofagmfcfaaGreatDoorPKvL1
namespace Go.Ab
set_option linter.unusedVariables false
set_option linter.unusedSimpArgs false

theorem small_some (x : Store) : ∃ b, law08_small x = some b := by
  unfold law08_small
  by_cases c1 : x.Seg ≤ 3000
  · exact ⟨true, by rw [if_pos (by simpa using c1)]⟩
  · by_cases c2 : x.From ≥ IntKind.i64.wrap (x.Seg - 3000)
    · by_cases c3 : x.From ≥ 1
      · exact ⟨true, by rw [if_neg (by simpa using c1), if_pos (by simpa using c2), if_pos (by simpa using c3)]⟩
      · by_cases c4 : x.Seg > 999000
        · exact ⟨_, by rw [if_neg (by simpa using c1), if_pos (by simpa using c2), if_neg (by simpa using c3), if_pos (by simpa using c4)]⟩
        · exact ⟨_, by rw [if_neg (by simpa using c1), if_pos (by simpa using c2), if_neg (by simpa using c3), if_neg (by simpa using c4)]⟩
    · by_cases c4 : x.Seg > 999000
      · exact ⟨_, by rw [if_neg (by simpa using c1), if_neg (by simpa using c2), if_pos (by simpa using c4)]⟩
      · exact ⟨_, by rw [if_neg (by simpa using c1), if_neg (by simpa using c2), if_neg (by simpa using c4)]⟩
theorem rcrash_eqK {x : Store} (h : DB x.D) (keeps : List Int) : ref08_Crash x keeps = some (crashK x keeps) := by
  unfold ref08_Crash crashK
  rw [rcrash_eq h.ok]
  simp only [Option.bind_some]
  rw [ropen_eqK (crash_db h keeps)]; rfl
theorem pairsM_len (s : State) : (pairsM s).length = s.Data.length + s.Toks.length := by simp [pairsM]
theorem pairsM_keys {s : State} {n : Nat} (hd : ∀ p ∈ s.Data, p.Key.length ≤ n) (ht : ∀ p ∈ s.Toks, p.Key.length ≤ n) : ∀ p ∈ pairsM s, p.Key.length ≤ n + 1 := by
  intro p hp
  unfold pairsM at hp
  rcases List.mem_append.1 hp with hp | hp
  · obtain ⟨q, hq, rfl⟩ := List.mem_map.1 hp
    have := hd q hq
    simp only [List.length_cons]; omega
  · obtain ⟨q, hq, rfl⟩ := List.mem_map.1 hp
    have := ht q hq
    simp only [List.length_cons]; omega
theorem commit_ok {x : Store} (h : StoOk x) (b : Batch) {n : Nat} (hd : x.S.Data.length ≤ n) (ht : x.S.Toks.length ≤ n) (hn : n + 24 ≤ 1400000000000) : DB (commitK x b).1.D ∧ SOk (commitK x b).1.S := by
  have hp := put_db h.d x.Seg (bytesB b).1
  have hw := wsync_db hp (wputM x.D x.Seg (bytesB b).1).2.1
  have hdo := doB_ok hd ht b
  unfold commitK
  split
  · exact ⟨h.d, h.s⟩
  split
  · exact ⟨h.d, h.s⟩
  split
  · exact ⟨h.d, h.s⟩
  split
  · exact ⟨hp, h.s⟩
  split
  · exact ⟨hw, h.s⟩
  · exact ⟨hw, ⟨by simp only; omega, by simp only; omega⟩⟩
theorem keys_bk {l : List Pair} {n : Nat} (h : sumOf (fun v => bkPair v) l + 1 ≤ n) : ∀ p ∈ l, p.Key.length ≤ n := by
  intro p hp
  have := sumOf_mem (f := fun v => bkPair v) hp
  have e : p.Key.length ≤ bkPair p := by unfold bkPair; omega
  omega
theorem law08_KvDoes_true (w : KvDoesIn) (o : okKvDoesIn w) (hb : bkKvDoesIn w ≤ 1048576) : law08_KvDoes w = some true := by
  unfold okKvDoesIn at o
  unfold bkKvDoesIn at hb
  obtain ⟨oX, o'⟩ := o
  have hX : bkStore w.X ≤ 1048576 := by omega
  obtain ⟨hs, hd, ht, _, _⟩ := store_ok oX hX
  have hbo : BOk w.B := batch_ok (by omega)
  have oX' := oX
  unfold okStore at oX'
  obtain ⟨oD, oF, oS, oR⟩ := oX'
  have hF : In64 w.X.From := oF
  have hR : In64 w.X.Run := oR
  have hSg : In64 w.X.Seg := oS
  have k1 : ∀ p ∈ w.X.S.Data, p.Key.length ≤ 1048576 := keys_bk (by unfold bkStore bkState at hX; omega)
  have k2 : ∀ p ∈ w.X.S.Toks, p.Key.length ≤ 1048576 := keys_bk (by unfold bkStore bkState at hX; omega)
  have hk : SK w.X.S := ⟨hs.s, fun p hp => by have := k1 p hp; omega, fun p hp => by have := k2 p hp; omega⟩
  have hl := pairsM_len w.X.S
  have hkp : KeysOk (pairsM w.X.S) := fun p hp => by have := pairsM_keys k1 k2 p hp; omega
  have hlen : (pairsM w.X.S).length ≤ 6100000 := by omega
  have c1 := commit_ok hs w.B hd ht (by omega)
  have c2 := check_db hs.d hlen hSg hR
  have c3 := openK_ok (crash_db hs.d w.Keeps)
  obtain ⟨few, hfew⟩ := small_some w.X
  unfold law08_KvDoes
  rw [shown08, hfew]
  simp only [Option.bind_some]
  cases few with
  | false => rfl
  | true =>
    rw [if_neg (by simp), commit_eqK hs, rcommit_eqK hs hbo, check_eqK hs.d hk hlen hSg hR hF, rcheck_eqK hs.d hk hlen hkp hSg hR hF, crash_eqK hs.d, rcrash_eqK hs.d]
    simp only [Option.bind_some]
    rw [rsamesto_eq c1.1.ok.len c1.2]
    simp only [Option.bind_some, decide_true, if_true]
    rw [rsamesto_eq c2.ok.len (by rw [check_S]; exact hs.s)]
    simp only [Option.bind_some, decide_true, if_true]
    rw [show (crashK w.X w.Keeps) = openK (crashM w.X.D w.Keeps) from rfl, rsamesto_eq c3.1.ok.len c3.2]
    simp only [Option.bind_some, decide_true, if_true]
    rw [arm_eqK, rarm_eqK]
    simp only [Option.bind_some]
    rw [rsamesto_eq (a := armK w.X w.Fuse) hs.d.ok.len hs.s]
    simp only [Option.bind_some, decide_true, if_true]
    rw [ksame_eq hs.d.ok.len hs.s]
    simp only [Option.bind_some]
    rw [rsamesto_eq hs.d.ok.len hs.s]
    simp only [Option.bind_some]
    rw [if_pos (by simp), ksame_eq hs.d.ok.len hs.s]
    simp
end Go.Ab
