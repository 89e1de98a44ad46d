/- What a check makes of a store: program and document are the model; commits, by the document; stores that are the same (plain). -/
import Derived.Test.YtgmejofagmfcfaaGreatDoorPKv4
namespace Go.Ab
set_option linter.unusedVariables false
set_option linter.unusedSimpArgs false

def twoL (d : Disk) (n s m : Str) : Disk × Int := if (layM d n s).2 ≠ 0 then layM d n s else layM (layM d n s).1 [109] m
def lay2K (x : Store) : Disk × Int := twoL x.D (runNm (x.Run + 1)) (bytesR (pairsM x.S)).1 (manifM (x.Seg + 1) (x.Run + 1))
def goneK (d : Disk) (n : Str) : Disk × Int := if has d.Files n = true then deleteM d n else (d, 0)
def oldK (d : Disk) (run from_ to : Int) : Disk × Int := if (goneK d (runNm run)).2 ≠ 0 then goneK d (runNm run) else wdropM (goneK d (runNm run)).1 from_ to
def checkK (x : Store) : Store × Int :=
  if x.Down = true then (x, 6) else if 1000000 ≤ x.Seg ∨ 1000000 ≤ x.Run then (x, 5) else
  if (bytesR (pairsM x.S)).2 ≠ 0 then (x, (bytesR (pairsM x.S)).2) else
  if (lay2K x).2 ≠ 0 then (⟨(lay2K x).1, x.From, x.Seg, x.Run, x.S, decide ((lay2K x).2 = 6)⟩, (lay2K x).2) else
  (⟨(oldK (lay2K x).1 x.Run x.From (x.Seg + 1)).1, x.Seg + 1, x.Seg + 1, x.Run + 1, x.S, decide ((oldK (lay2K x).1 x.Run x.From (x.Seg + 1)).2 = 6)⟩, (oldK (lay2K x).1 x.Run x.From (x.Seg + 1)).2)
theorem runNm_len (n : Int) : (runNm n).length ≤ 30 := by
  unfold runNm
  split
  · have := fg_len 18 (n.toNat / 10) (by show n.toNat / 10 < 1000000000000000000; omega)
    unfold figS
    simp only [List.length_cons, List.length_append, List.length_nil]
    omega
  · simp
theorem bytesR_len {l : List Pair} (hl : l.length ≤ 6100000) : (bytesR l).1.length ≤ 1099511627776 := by
  unfold bytesR
  split
  · rename_i hm
    unfold mayR at hm
    rw [Bool.and_eq_true] at hm
    have hp := pBytes_le hm.2
    have hn := numS_len (n := l.length) (by omega)
    have hs := sealM_len (s := numS l.length ++ pBytes l) (by rw [List.length_append]; omega)
    rw [List.length_append] at hs
    show (sealM (numS l.length ++ pBytes l)).length ≤ 1099511627776
    omega
  · simp
theorem gone_db {d : Disk} (h : DB d) (n : Str) : DB (goneK d n).1 := by
  unfold goneK; split
  · exact delete_db h n
  · exact h
theorem old_db {d : Disk} (h : DB d) (r f t : Int) : DB (oldK d r f t).1 := by
  unfold oldK; split
  · exact gone_db h _
  · exact drop_db (gone_db h _) f t
theorem lay2_dbK {x : Store} (h : DB x.D) (hl : (pairsM x.S).length ≤ 6100000) (hs : In64 (x.Seg + 1)) (hr : In64 (x.Run + 1)) : DB (lay2K x).1 := by
  have h1 := lay_db h (runNm (x.Run + 1)) (bytesR (pairsM x.S)).1 (bytesR_len hl)
  unfold lay2K twoL; split
  · exact h1
  · have := manifM_len hs hr; exact lay_db h1 _ _ (by omega)
theorem check_db {x : Store} (h : DB x.D) (hl : (pairsM x.S).length ≤ 6100000) (hs : In64 x.Seg) (hr : In64 x.Run) : DB (checkK x).1.D := by
  unfold checkK
  split
  · exact h
  split
  · exact h
  rename_i h2
  split
  · exact h
  have := lay2_dbK h hl ⟨by omega, by omega⟩ ⟨by omega, by omega⟩
  split
  · exact this
  · exact old_db this _ _ _
theorem check_S (x : Store) : (checkK x).1.S = x.S := by
  unfold checkK
  split
  · rfl
  split
  · rfl
  split
  · rfl
  split <;> rfl
theorem fails_bind {α β : Type} (e : Int) (f : Unit ⊕ (Int ⊕ Int) → Option α) (g : α → β) : (kv_fails e).bind f = if e = 0 then f (.inl ()) else if e = 6 then f (.inr (.inl e)) else f (.inr (.inr e)) := by
  rw [fails_ways]
  simp only [Option.bind_some]
  split
  · rfl
  · split <;> rfl
theorem old_eqK {x : Store} (h : DB x.D) (hd : x.Down = false) {from_ : Int} (hf : In64 from_) (hr : IntKind.i64.wrap (x.Run - 1) = x.Run - 1) : kv_old x from_ =
    some (if (oldK x.D (x.Run - 1) from_ x.From).2 = 0 then .inl ⟨(oldK x.D (x.Run - 1) from_ x.From).1, x.From, x.Seg, x.Run, x.S, x.Down⟩ else
      if (oldK x.D (x.Run - 1) from_ x.From).2 = 6 then .inr (.inl (⟨(oldK x.D (x.Run - 1) from_ x.From).1, x.From, x.Seg, x.Run, x.S, x.Down⟩, 6)) else
      .inr (.inr (⟨(oldK x.D (x.Run - 1) from_ x.From).1, x.From, x.Seg, x.Run, x.S, x.Down⟩, (oldK x.D (x.Run - 1) from_ x.From).2))) := by
  unfold kv_old oldK goneK
  rw [hr, runnm_eq]
  simp only [Option.bind_some]
  rw [find_eq h.ok.len]
  simp only [Option.bind_some]
  have fin : ∀ d : Disk, DB d → ((wal_Drop d from_ x.From).bind fun y9 => (kv_fails y9.2).bind fun y10 => match y10 with
      | (.inl y11) => some (.inl ({ D := y9.1, From := x.From, Seg := x.Seg, Run := x.Run, S := x.S, Down := x.Down } : Store))
      | (.inr (.inl y12)) => some (.inr (.inl (({ D := y9.1, From := x.From, Seg := x.Seg, Run := x.Run, S := x.S, Down := x.Down } : Store), y12)))
      | (.inr (.inr y13)) => some (.inr (.inr (({ D := y9.1, From := x.From, Seg := x.Seg, Run := x.Run, S := x.S, Down := x.Down } : Store), y13))) : Option (Store ⊕ (Store × Int) ⊕ (Store × Int))) =
      some (if (wdropM d from_ x.From).2 = 0 then .inl ⟨(wdropM d from_ x.From).1, x.From, x.Seg, x.Run, x.S, x.Down⟩ else
      if (wdropM d from_ x.From).2 = 6 then .inr (.inl (⟨(wdropM d from_ x.From).1, x.From, x.Seg, x.Run, x.S, x.Down⟩, 6)) else
      .inr (.inr (⟨(wdropM d from_ x.From).1, x.From, x.Seg, x.Run, x.S, x.Down⟩, (wdropM d from_ x.From).2))) := by
    intro d hdd
    rw [drop_eq hdd.ok hf]
    simp only [Option.bind_some]
    rw [fails_ways]
    simp only [Option.bind_some]
    by_cases c : (wdropM d from_ x.From).2 = 0
    · simp [c]
    · by_cases c6 : (wdropM d from_ x.From).2 = 6
      · simp [c6]
      · simp [c, c6]
  cases hh : has x.D.Files (runNm (x.Run - 1)) with
  | false =>
    simp only [Bool.false_eq_true, if_false, Option.bind_some, ne_eq, not_true_eq_false]
    exact fin x.D h
  | true =>
    rw [if_pos rfl, if_pos rfl, delete_eq h.ok]
    simp only [Option.bind_some]
    have dd := delete_db h (runNm (x.Run - 1))
    by_cases c : (deleteM x.D (runNm (x.Run - 1))).2 = 0
    · simp only [c, ne_eq, not_true_eq_false, if_false, decide_true, Bool.not_true, Bool.false_eq_true, Option.bind_some]
      exact fin _ dd
    · simp only [c, ne_eq, not_false_eq_true, if_true, decide_false, Bool.not_false, if_false, fails_ways, Option.bind_some]
      by_cases c6 : (deleteM x.D (runNm (x.Run - 1))).2 = 6
      · simp [c6]
      · simp [c, c6]
theorem layTwo_loop {x : Store} (h : DB x.D) (hd : x.Down = false) {s : Str × Int} (hs : s.1.length ≤ 1099511627776) {n m : Str} (hn : n.length ≤ 1099511627776) (hm : m.length ≤ 1099511627776) :
    loop (fun (s1 : Int × (List File) × Int × Int × Bool) => kv_Check_l2 x s n m s1.1 s1.2.1 s1.2.2.1 s1.2.2.2.1 s1.2.2.2.2) ((0 : Int), x.D.Files, x.D.Room, x.D.Fuse, x.D.Off) =
    some (if (twoL x.D n s.1 m).2 = 0 then .inr ((twoL x.D n s.1 m).1.Files, (twoL x.D n s.1 m).1.Room, (twoL x.D n s.1 m).1.Fuse, (twoL x.D n s.1 m).1.Off) else
      .inl ((twoL x.D n s.1 m).2, (twoL x.D n s.1 m).1.Files, (twoL x.D n s.1 m).1.Room, (twoL x.D n s.1 m).1.Fuse, (twoL x.D n s.1 m).1.Off, x.From, x.Seg, x.Run, x.S.Data, x.S.Toks, decide ((twoL x.D n s.1 m).2 = 6))) := by
  have one : ∀ (d : Disk) (k : Nat) (nm_ t : Str), DB d → nm_.length ≤ 1099511627776 → t.length ≤ 1099511627776 → ([(n, s.1), ([109], m)] : List (Str × Str))[k]? = some (nm_, t) →
      kv_Check_l2 x s n m (k : Int) d.Files d.Room d.Fuse d.Off = some (if (layM d nm_ t).2 = 0 then .inl (((k + 1 : Nat) : Int), (layM d nm_ t).1.Files, (layM d nm_ t).1.Room, (layM d nm_ t).1.Fuse, (layM d nm_ t).1.Off) else
        .inr (.inl ((layM d nm_ t).2, (layM d nm_ t).1.Files, (layM d nm_ t).1.Room, (layM d nm_ t).1.Fuse, (layM d nm_ t).1.Off, x.From, x.Seg, x.Run, x.S.Data, x.S.Toks, decide ((layM d nm_ t).2 = 6)))) := by
    intro d k nm_ t hdd h1 h2 hk
    have hlt := (List.getElem?_eq_some_iff.1 hk).1
    simp only [List.length_cons, List.length_nil] at hlt
    unfold kv_Check_l2
    rw [if_pos (by simp; omega), ix_at hk]
    simp only [Option.bind_some]
    rw [show ({ Files := d.Files, Room := d.Room, Fuse := d.Fuse, Off := d.Off } : Disk) = d from rfl, lay_eq hdd.ok nm_ t h1 h2]
    simp only [Option.bind_some]
    rw [fails_ways]
    simp only [Option.bind_some]
    by_cases c : (layM d nm_ t).2 = 0
    · rw [if_pos c, if_pos c, IntWalk.i64_in _ ⟨by omega, by omega⟩]; rfl
    · rw [if_neg c, if_neg c]
      by_cases c6 : (layM d nm_ t).2 = 6
      · rw [if_pos c6]; simp [kv_told, c6]
      · rw [if_neg c6]; simp [kv_told_2, c6, hd]
  have d1 := lay_db h n s.1 hs
  have r1 := one x.D 0 n s.1 h hn hs rfl
  have r2 := one (layM x.D n s.1).1 1 [109] m d1 (by simp) hm rfl
  by_cases c : (layM x.D n s.1).2 = 0
  · rw [if_pos c] at r1
    have e1 := @loop_inl _ _ (fun (s1 : Int × (List File) × Int × Int × Bool) => kv_Check_l2 x s n m s1.1 s1.2.1 s1.2.2.1 s1.2.2.2.1 s1.2.2.2.2) ((0 : Int), x.D.Files, x.D.Room, x.D.Fuse, x.D.Off) _ r1
    rw [e1]
    have et : twoL x.D n s.1 m = layM (layM x.D n s.1).1 [109] m := by unfold twoL; rw [if_neg (by simpa using c)]
    rw [et]
    by_cases c2 : (layM (layM x.D n s.1).1 [109] m).2 = 0
    · rw [if_pos c2] at r2 ⊢
      have e2 := @loop_inl _ _ (fun (s1 : Int × (List File) × Int × Int × Bool) => kv_Check_l2 x s n m s1.1 s1.2.1 s1.2.2.1 s1.2.2.2.1 s1.2.2.2.2) (((0 + 1 : Nat) : Int), (layM x.D n s.1).1.Files, (layM x.D n s.1).1.Room, (layM x.D n s.1).1.Fuse, (layM x.D n s.1).1.Off) _ r2
      rw [e2]
      refine loop_inr ?_
      simp only
      unfold kv_Check_l2
      rw [if_neg (by simp)]
    · rw [if_neg c2] at r2 ⊢
      exact loop_inr r2
  · rw [if_neg c] at r1
    have et : twoL x.D n s.1 m = layM x.D n s.1 := by unfold twoL; rw [if_pos c]
    rw [et, if_neg c]
    exact loop_inr r1
theorem check_eqK {x : Store} (h : DB x.D) (hk : SK x.S) (hl : (pairsM x.S).length ≤ 6100000) (hs : In64 x.Seg) (hr : In64 x.Run) (hf : In64 x.From) : kv_Check x = some (checkK x) := by
  unfold kv_Check checkK
  by_cases c1 : x.Down = true
  · rw [if_pos c1, if_pos c1]
  rw [if_neg c1, if_neg c1]
  have hd : x.Down = false := by simpa using c1
  by_cases c2 : 1000000 ≤ x.Seg ∨ 1000000 ≤ x.Run
  · rw [if_pos c2, if_pos (by simpa using c2)]
  rw [if_neg c2, if_neg (by simpa using c2), pairsS_eq hk]
  simp only [Option.bind_some]
  rw [runbytes_eq hl]
  simp only [Option.bind_some]
  by_cases c3 : (bytesR (pairsM x.S)).2 ≠ 0
  · rw [if_pos c3, if_pos (by simpa using c3)]
  rw [if_neg c3, if_neg (by simpa using c3)]
  have w1 : IntKind.i64.wrap (x.Run + 1) = x.Run + 1 := IntWalk.i64_in _ ⟨by omega, by omega⟩
  have w2 : IntKind.i64.wrap (x.Seg + 1) = x.Seg + 1 := IntWalk.i64_in _ ⟨by omega, by omega⟩
  have w3 : IntKind.i64.wrap (x.Run + 1 - 1) = x.Run + 1 - 1 := IntWalk.i64_in _ ⟨by omega, by omega⟩
  have w4 : x.Run + 1 - 1 = x.Run := by omega
  have hn1 := runNm_len (x.Run + 1)
  have hb := bytesR_len hl
  have hm := manifM_len (f := x.Seg + 1) (r := x.Run + 1) ⟨by omega, by omega⟩ ⟨by omega, by omega⟩
  have d2 := lay2_dbK h hl (x := x) ⟨by omega, by omega⟩ ⟨by omega, by omega⟩
  rw [w1, w2, runnm_eq]
  simp only [Option.bind_some]
  rw [manif_eq ⟨by omega, by omega⟩ ⟨by omega, by omega⟩]
  simp only [Option.bind_some]
  rw [layTwo_loop h hd hb (by omega) (by omega)]
  rw [show twoL x.D (runNm (x.Run + 1)) (bytesR (pairsM x.S)).1 (manifM (x.Seg + 1) (x.Run + 1)) = lay2K x from rfl]
  simp only [Option.bind_some]
  by_cases c4 : (lay2K x).2 = 0
  · rw [if_pos c4, if_neg (by simpa using c4)]
    simp only
    rw [show ({ Files := (lay2K x).1.Files, Room := (lay2K x).1.Room, Fuse := (lay2K x).1.Fuse, Off := (lay2K x).1.Off } : Disk) = (lay2K x).1 from rfl]
    rw [old_eqK (x := ⟨(lay2K x).1, x.Seg + 1, x.Seg + 1, x.Run + 1, x.S, x.Down⟩) d2 hd hf w3]
    simp only [Option.bind_some, w4]
    by_cases c5 : (oldK (lay2K x).1 x.Run x.From (x.Seg + 1)).2 = 0
    · simp [c5, kv_told_3, hd]
    · by_cases c6 : (oldK (lay2K x).1 x.Run x.From (x.Seg + 1)).2 = 6
      · simp [c6, kv_told]
      · simp [c5, c6, kv_told_2, hd]
  · rw [if_neg c4, if_pos c4]
end Go.Ab
