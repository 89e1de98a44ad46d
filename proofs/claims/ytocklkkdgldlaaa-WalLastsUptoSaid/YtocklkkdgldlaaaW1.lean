/- The program's functions as plain Lean functions, and that the program comes to what they come to. Printed by a program of this session. -/
import Derived.Test.YtocklkkdgldlaaaTy
import Derived.RangeFuncLeaves
import Derived.Shelf.Abstract
import Derived.WalkKit
import Derived.OwnWalkIn
import Derived.TacticsInMore
import Derived.LoopNIn
import Derived.LoopIn
import Derived.Maps.AppendAt
import Derived.RegionIn
namespace Go.Ab
open Go.Proofs
set_option linter.unusedVariables false
set_option linter.unusedSimpArgs false
set_option maxRecDepth 100000
noncomputable def ref03_New (room : Int) : Option (Disk × Int) :=
  if (decide (room < 0)) then
    some (({ Files := [], Room := 0, Fuse := 0, Off := false } : Disk), 1)
  else
    some (({ Files := [], Room := room, Fuse := (-1), Off := false } : Disk), 0)
def gm_ref03_New : Gm := ⟨tys, [], [], []⟩
theorem ref03_New_walk (room : Int) (r : Disk × Int) (h : ref03_New room = some r) : PureP Try.prog 22 [.v (.int .i64 room)] (fun a => a = .tup [.agg [.sl (List.map encFile r.1.Files), .v (.int .i64 r.1.Room), .v (.int .i64 r.1.Fuse), .v (.bool r.1.Off)], .v (.int .i64 r.2)]) := by
  unfold ref03_New at h
  refine pureW (G := gm_ref03_New) tyOk Try.func22 rfl (by kernel_rfl) (by simp [Try.f22]) ?_
  refine Tri.seqK ?_
  refine Tri.run (G := gm_ref03_New) tyOk mixed ?_
  conv => whnf
  refine Tri.seqK ?_
  refine Tri.seqK ?_
  refine Tri.run (G := gm_ref03_New) tyOk mixed ?_
  conv => whnf
  refine Tri.cond rfl (fun c2 => ?_) (fun c2 => ?_)
  · replace h := if_t c2 h
    refine Tri.seqK ?_
    refine Tri.run (G := gm_ref03_New) tyOk mixed ?_
    conv => whnf
    refine Tri.run (G := gm_ref03_New) tyOk mixed ?_
    conv => whnf
    refine fin_here ?_
    conv => whnf
    obtain rfl := Option.some.inj h
    rfl
  · replace h := if_f c2 h
    refine Tri.run (G := gm_ref03_New) tyOk mixed ?_
    conv => whnf
    refine Tri.seqK ?_
    refine Tri.run (G := gm_ref03_New) tyOk mixed ?_
    conv => whnf
    refine Tri.run (G := gm_ref03_New) tyOk mixed ?_
    conv => whnf
    refine fin_here ?_
    conv => whnf
    obtain rfl := Option.some.inj h
    rfl
noncomputable def wal_may (seg : Int) : Option (Bool) :=
  if (decide (seg ≥ 1)) then
    some (decide (seg ≤ 1000000))
  else
    some false
def gm_wal_may : Gm := ⟨tys, [], [], []⟩
theorem wal_may_walk (seg : Int) (r : Bool) (h : wal_may seg = some r) : PureP Try.prog 35 [.v (.int .i64 seg)] (fun a => a = .v (.bool r)) := by
  unfold wal_may at h
  refine pureW (G := gm_wal_may) tyOk Try.func35 rfl (by kernel_rfl) (by simp [Try.f35]) ?_
  refine Tri.seqK ?_
  refine Tri.run (G := gm_wal_may) tyOk mixed ?_
  conv => whnf
  refine Tri.seqK ?_
  refine Tri.run (G := gm_wal_may) tyOk mixed ?_
  conv => whnf
  refine cond_mk (fun c1 => ?_) (fun c1 => ?_)
  · replace h := if_t c1 h
    conv => whnf
    refine Tri.run (G := gm_wal_may) tyOk mixed ?_
    conv => whnf
    refine fin_here ?_
    conv => whnf
    obtain rfl := Option.some.inj h
    rfl
  · replace h := if_f c1 h
    conv => whnf
    refine Tri.run (G := gm_wal_may) tyOk mixed ?_
    conv => whnf
    refine fin_here ?_
    conv => whnf
    obtain rfl := Option.some.inj h
    rfl
noncomputable def dec_Num_l1 (a19 : Int) (a20 : Int) (a21 : (List Int)) : Option ((Int × Int × (List Int)) ⊕ (Str)) :=
  need (a21.length = 21) <|
  (ix a21 (IntKind.i64.wrap (a20 - 1))).bind fun x28 =>
  if (decide ((IntKind.u64.wrap (Int.tdiv a19 10)) = 0)) then
    need ((List.set a21 ((IntKind.i64.wrap (a20 - 1))).toNat (IntKind.u8.wrap (48 + (IntKind.u8.wrap (Int.tmod a19 10))))).length = 21) <|
    need (0 ≤ (IntKind.i64.wrap (a20 - 1)) ∧ (IntKind.i64.wrap (a20 - 1)) ≤ (21 : Int) ∧ (21 : Int) ≤ (21 : Int)) <|
    some (.inr (List.map u8 (cut (List.set a21 ((IntKind.i64.wrap (a20 - 1))).toNat (IntKind.u8.wrap (48 + (IntKind.u8.wrap (Int.tmod a19 10))))) (IntKind.i64.wrap (a20 - 1)) (21 : Int))))
  else
    some (.inl ((IntKind.u64.wrap (Int.tdiv a19 10)), (IntKind.i64.wrap (a20 - 1)), (List.set a21 ((IntKind.i64.wrap (a20 - 1))).toNat (IntKind.u8.wrap (48 + (IntKind.u8.wrap (Int.tmod a19 10)))))))
noncomputable def dec_Num (v : Int) : Option (Str) :=
  need ((List.replicate 21 (0 : Int)).length = 21) <|
  (ix (List.replicate 21 (0 : Int)) 20).bind fun x2 =>
  (loop (fun (s24 : Int × Int × (List Int)) => dec_Num_l1 s24.1 s24.2.1 s24.2.2) (v, (20 : Int), (List.set (List.replicate 21 (0 : Int)) (20 : Int).toNat 59))).bind fun (y22 : Str) =>
  some y22
def gm_dec_Num : Gm := ⟨tys, [], [], []⟩
theorem dec_Num_walk (v : Int) (r : Str) (h : dec_Num v = some r) : PureP Try.prog 37 [.v (.int .u64 v)] (fun a => a = .v (.string (bs r))) := by
  unfold dec_Num at h
  refine pureW (G := gm_dec_Num) tyOk Try.func37 rfl (by kernel_rfl) (by simp [Try.f37]) ?_
  refine Tri.seqK ?_
  refine Tri.run (G := gm_dec_Num) tyOk mixed ?_
  conv => whnf
  refine Tri.seqK ?_
  refine Tri.run (G := gm_dec_Num) tyOk mixed ?_
  conv => whnf
  refine Tri.seqK ?_
  refine Tri.run (G := gm_dec_Num) tyOk mixed ?_
  conv => whnf
  refine Tri.seqK ?_
  refine Tri.weak (show Weak _ ⟨22, 0, ofRegs [(0, .v (.int .u64 v)), (2, .v (.string (bs []))), (3, .rptr 1 ((List.map (encI .u8) (List.replicate 21 (0 : Int))).length) 1 (0) 0), (4, .v (.int .i64 20))], [.gone, .row 98 1 (List.map (encI .u8) (List.replicate 21 (0 : Int)))]⟩ from Weak.trans (weak_arr 3 0 98 21 _ rfl rfl rfl rfl rfl rfl) (weak_fin _ rfl rfl rfl (.cons (.same rfl) (.cons (.same rfl) (LeH.rest))) (.cons (.one (.same rfl)) (.cons (.one (.same rfl)) (.cons (.one (.same rfl)) (.cons (.one (.same rfl)) (.nil))))) rfl rfl)) ?_
  refine Tri.run (G := gm_dec_Num) tyOk mixed ?_
  conv => whnf
  replace h := need_some h
  obtain ⟨p1, h⟩ := h
  replace h := bind_some h
  obtain ⟨x2, q3, h⟩ := h
  refine ⟨⟨by simp, by first | (simp; done) | simpa using p1, (ix_lt q3).1, by have := ix_lt q3; simp only [List.length_map, List.length_set, List.length_replicate, List.length_cons, List.length_nil] at *; omega⟩, ?_⟩
  conv => whnf
  refine ⟨rfl, ?_⟩
  conv => whnf
  refine ⟨⟨_, map_get (encI .u8) (ix_some q3).2, ?_⟩⟩
  conv => whnf
  refine ⟨Nat.le_of_ble_eq_true rfl, ?_⟩
  conv => whnf
  refine ⟨⟨List.map (encI .u8) (List.set (List.replicate 21 (0 : Int)) (20 : Int).toNat 59), map_set (encI .u8) _ _ _ rfl, ?_⟩⟩
  conv => whnf
  refine Tri.block ?_
  replace h := bind_some h
  obtain ⟨y22, q23, h⟩ := h
  refine Tri.cut (fun ex S' => ex = .ret ∧ Weak S' ⟨22, 0, ofRegs [(2, .v (.string (bs y22)))], []⟩) ?_ ?_
  · refine Tri.loopF (fun (s24 : Int × Int × (List Int)) => (⟨22, 0, ofRegs [(0, .v (.int .u64 s24.1)), (3, .rptr 1 ((List.map (encI .u8) s24.2.2).length) 1 (0) 0), (4, .v (.int .i64 s24.2.1))], [.gone, .row 98 1 (List.map (encI .u8) s24.2.2)]⟩ : St)) q23 (weak_fin _ rfl rfl rfl (.cons (.same rfl) (.cons (.same rfl) (LeH.rest))) (.cons (.one (.same rfl)) (.cons (.one (.same (show (.rptr 1 ((List.map (encI .u8) (List.replicate 21 (0 : Int))).length) 1 (0) 0 : AV) = (.rptr 1 ((List.map (encI .u8) (List.set (List.replicate 21 (0 : Int)) (20 : Int).toNat 59)).length) 1 (0) 0 : AV) from congrArg (fun n => AV.rptr 1 n 1 (0) 0) (by simp)))) (.cons (.one (.same rfl)) (.nil)))) rfl rfl) ?_
    rintro ⟨a19, a20, a21⟩ v25 hv r26
    have hv : dec_Num_l1 a19 a20 a21 = some v25 := hv
    unfold dec_Num_l1 at hv
    dsimp only
    refine Tri.block ?_
    refine Tri.seqK ?_
    refine Tri.run (G := gm_dec_Num) tyOk mixed ?_
    conv => whnf
    refine Tri.seqK ?_
    refine Tri.run (G := gm_dec_Num) tyOk mixed ?_
    conv => whnf
    refine ⟨by decide, ?_⟩
    conv => whnf
    refine ⟨⟨(IntKind.u8.wrap (Int.tmod a19 10)), rfl, ?_⟩⟩
    conv => whnf
    replace hv := need_some hv
    obtain ⟨p27, hv⟩ := hv
    replace hv := bind_some hv
    obtain ⟨x28, q29, hv⟩ := hv
    refine ⟨⟨by simp, by first | (simp; done) | simpa using p27, (ix_lt q29).1, by have := ix_lt q29; simp only [List.length_map, List.length_set, List.length_replicate, List.length_cons, List.length_nil] at *; omega⟩, ?_⟩
    conv => whnf
    refine ⟨rfl, ?_⟩
    conv => whnf
    refine ⟨⟨_, map_get (encI .u8) (ix_some q29).2, ?_⟩⟩
    conv => whnf
    refine ⟨Nat.le_of_ble_eq_true rfl, ?_⟩
    conv => whnf
    refine ⟨⟨List.map (encI .u8) (List.set a21 ((IntKind.i64.wrap (a20 - 1))).toNat (IntKind.u8.wrap (48 + (IntKind.u8.wrap (Int.tmod a19 10))))), map_set (encI .u8) _ _ _ rfl, ?_⟩⟩
    conv => whnf
    refine Tri.seqK ?_
    refine Tri.run (G := gm_dec_Num) tyOk mixed ?_
    conv => whnf
    refine ⟨by decide, ?_⟩
    conv => whnf
    refine Tri.seqK ?_
    refine Tri.run (G := gm_dec_Num) tyOk mixed ?_
    conv => whnf
    refine Tri.cond rfl (fun c30 => ?_) (fun c30 => ?_)
    · replace hv := if_t c30 hv
      refine Tri.seqK ?_
      refine Tri.weak (show Weak _ ⟨22, 0, ofRegs [(0, .v (.int .u64 (IntKind.u64.wrap (Int.tdiv a19 10)))), (3, .rptr 1 ((List.map (encI .u8) a21).length) 1 (0) 0), (4, .v (.int .i64 (IntKind.i64.wrap (a20 - 1)))), (7, .v (.int .i64 a20)), (8, .v (.int .i64 (IntKind.i64.wrap (a20 - 1)))), (9, .v (.int .i64 (IntKind.i64.wrap (a20 - 1)))), (10, .v (.int .u64 a19)), (11, .v (.int .u64 (Int.tmod a19 10))), (12, .v (.int .u8 (IntKind.u8.wrap (Int.tmod a19 10)))), (13, .v (.int .u8 (IntKind.u8.wrap (48 + (IntKind.u8.wrap (Int.tmod a19 10)))))), (14, .rptr 1 ((List.map (encI .u8) a21).length) 1 (((IntKind.i64.wrap (a20 - 1))).toNat) 0), (15, .v (.int .u64 a19)), (16, .v (.int .u64 (IntKind.u64.wrap (Int.tdiv a19 10)))), (17, .v (.int .u64 (IntKind.u64.wrap (Int.tdiv a19 10)))), (18, .v (.bool true))], [.gone, .frz 1 (List.map (encI .u8) (List.set a21 ((IntKind.i64.wrap (a20 - 1))).toNat (IntKind.u8.wrap (48 + (IntKind.u8.wrap (Int.tmod a19 10))))))]⟩ from Weak.trans (weak_freeze 1 rfl) (weak_fin _ rfl rfl rfl (.cons (.same rfl) (.cons (.same rfl) (LeH.rest))) (.cons (.one (.same rfl)) (.cons (.one (.same rfl)) (.cons (.one (.same rfl)) (.cons (.one (.same rfl)) (.cons (.one (.same rfl)) (.cons (.one (.same rfl)) (.cons (.one (.same rfl)) (.cons (.one (.same rfl)) (.cons (.one (.same rfl)) (.cons (.one (.same rfl)) (.cons (.one (.same rfl)) (.cons (.one (.same rfl)) (.cons (.one (.same rfl)) (.cons (.one (.same rfl)) (.cons (.one (.same rfl)) (.nil)))))))))))))))) rfl rfl)) ?_
      refine Tri.run (G := gm_dec_Num) tyOk mixed ?_
      conv => whnf
      replace hv := need_some hv
      obtain ⟨p31, hv⟩ := hv
      refine ⟨⟨by simp, by first | (simp; done) | simpa using p31, by have := p31; simp only [List.length_map, List.length_set] at *; omega⟩, ?_⟩
      conv => whnf
      replace hv := need_some hv
      obtain ⟨p32, hv⟩ := hv
      refine ⟨⟨p32.1, p32.2.1, p32.2.2⟩, ?_⟩
      conv => whnf
      refine ⟨⟨List.map (encI .u8) (cut (List.set a21 ((IntKind.i64.wrap (a20 - 1))).toNat (IntKind.u8.wrap (48 + (IntKind.u8.wrap (Int.tmod a19 10))))) (IntKind.i64.wrap (a20 - 1)) (21 : Int)), map_cut _ _ _ _, ?_⟩⟩
      conv => whnf
      refine ⟨⟨(cut (List.set a21 ((IntKind.i64.wrap (a20 - 1))).toNat (IntKind.u8.wrap (48 + (IntKind.u8.wrap (Int.tmod a19 10))))) (IntKind.i64.wrap (a20 - 1)) (21 : Int)), rfl, ?_⟩⟩
      conv => whnf
      refine ⟨⟨bs (List.map u8 (cut (List.set a21 ((IntKind.i64.wrap (a20 - 1))).toNat (IntKind.u8.wrap (48 + (IntKind.u8.wrap (Int.tmod a19 10))))) (IntKind.i64.wrap (a20 - 1)) (21 : Int))), ofInts_eq _, ?_⟩⟩
      conv => whnf
      refine Tri.run (G := gm_dec_Num) tyOk mixed ?_
      conv => whnf
      obtain rfl := Option.some.inj hv
      obtain rfl := r26 _ rfl
      exact ⟨rfl, weak_fin _ rfl rfl rfl (LeH.rest) (.cons (.one (.same rfl)) (.nil)) rfl rfl⟩
    · replace hv := if_f c30 hv
      refine Tri.run (G := gm_dec_Num) tyOk mixed ?_
      conv => whnf
      obtain rfl := Option.some.inj hv
      exact ⟨_, rfl, weak_fin _ rfl rfl rfl (.cons (.same rfl) (.cons (.same rfl) (LeH.rest))) (.cons (.one (.same rfl)) (.cons (.one (.same (show (.rptr 1 ((List.map (encI .u8) a21).length) 1 (0) 0 : AV) = (.rptr 1 ((List.map (encI .u8) (List.set a21 ((IntKind.i64.wrap (a20 - 1))).toNat (IntKind.u8.wrap (48 + (IntKind.u8.wrap (Int.tmod a19 10)))))).length) 1 (0) 0 : AV) from congrArg (fun n => AV.rptr 1 n 1 (0) 0) (by simp)))) (.cons (.one (.same rfl)) (.nil)))) rfl rfl⟩
  · rintro ex S' ⟨rfl, w33⟩
    conv => whnf
    refine fin_pre w33 ?_
    conv => whnf
    obtain rfl := Option.some.inj h
    rfl
noncomputable def internal_stringslite_HasSuffix (s : Str) (suffix : Str) : Option (Bool) :=
  if (decide ((s.length : Int) ≥ (suffix.length : Int))) then
    need (0 ≤ (IntKind.i64.wrap ((s.length : Int) - (suffix.length : Int))) ∧ (IntKind.i64.wrap ((s.length : Int) - (suffix.length : Int))) ≤ (s.length : Int) ∧ (s.length : Int) ≤ (s.length : Int)) <|
    some (decide ((cut s (IntKind.i64.wrap ((s.length : Int) - (suffix.length : Int))) (s.length : Int)) = suffix))
  else
    some false
def gm_internal_stringslite_HasSuffix : Gm := ⟨tys, [], [], []⟩
theorem internal_stringslite_HasSuffix_walk (s : Str) (suffix : Str) (r : Bool) (h : internal_stringslite_HasSuffix s suffix = some r) : PureP Try.prog 75 [.v (.string (bs s)), .v (.string (bs suffix))] (fun a => a = .v (.bool r)) := by
  unfold internal_stringslite_HasSuffix at h
  refine pureW (G := gm_internal_stringslite_HasSuffix) tyOk Try.func75 rfl (by kernel_rfl) (by simp [Try.f75]) ?_
  refine Tri.seqK ?_
  refine Tri.run (G := gm_internal_stringslite_HasSuffix) tyOk mixed ?_
  conv => whnf
  refine Tri.seqK ?_
  refine Tri.run (G := gm_internal_stringslite_HasSuffix) tyOk mixed ?_
  conv => whnf
  refine ⟨⟨(s.length : Int), rfl, ?_⟩⟩
  conv => whnf
  refine ⟨⟨(suffix.length : Int), rfl, ?_⟩⟩
  conv => whnf
  refine cond_mk (fun c1 => ?_) (fun c1 => ?_)
  · replace h := if_t c1 h
    conv => whnf
    refine ⟨⟨(s.length : Int), rfl, ?_⟩⟩
    conv => whnf
    refine ⟨⟨(suffix.length : Int), rfl, ?_⟩⟩
    conv => whnf
    replace h := need_some h
    obtain ⟨p2, h⟩ := h
    refine ⟨p2, ?_⟩
    conv => whnf
    refine ⟨⟨bs (cut s (IntKind.i64.wrap ((s.length : Int) - (suffix.length : Int))) (s.length : Int)), bs_cut _ _ _, ?_⟩⟩
    conv => whnf
    refine ⟨⟨(decide ((cut s (IntKind.i64.wrap ((s.length : Int) - (suffix.length : Int))) (s.length : Int)) = suffix)), bs_eq _ _, ?_⟩⟩
    conv => whnf
    refine Tri.run (G := gm_internal_stringslite_HasSuffix) tyOk mixed ?_
    conv => whnf
    refine fin_here ?_
    conv => whnf
    obtain rfl := Option.some.inj h
    rfl
  · replace h := if_f c1 h
    conv => whnf
    refine Tri.run (G := gm_internal_stringslite_HasSuffix) tyOk mixed ?_
    conv => whnf
    refine fin_here ?_
    conv => whnf
    obtain rfl := Option.some.inj h
    rfl
noncomputable def internal_stringslite_TrimSuffix (s : Str) (suffix : Str) : Option (Str) :=
  (internal_stringslite_HasSuffix s suffix).bind fun y5 =>
  if y5 then
    need (0 ≤ (0 : Int) ∧ 0 ≤ (IntKind.i64.wrap ((s.length : Int) - (suffix.length : Int))) ∧ (IntKind.i64.wrap ((s.length : Int) - (suffix.length : Int))) ≤ (s.length : Int)) <|
    some (cut s 0 (IntKind.i64.wrap ((s.length : Int) - (suffix.length : Int))))
  else
    some s
def gm_internal_stringslite_TrimSuffix : Gm := ⟨tys, [], [], []⟩
theorem internal_stringslite_TrimSuffix_walk (s : Str) (suffix : Str) (r : Str) (h : internal_stringslite_TrimSuffix s suffix = some r) : PureP Try.prog 58 [.v (.string (bs s)), .v (.string (bs suffix))] (fun a => a = .v (.string (bs r))) := by
  unfold internal_stringslite_TrimSuffix at h
  refine pureW (G := gm_internal_stringslite_TrimSuffix) tyOk Try.func58 rfl (by kernel_rfl) (by simp [Try.f58]) ?_
  refine Tri.seqK ?_
  refine Tri.run (G := gm_internal_stringslite_TrimSuffix) tyOk mixed ?_
  conv => whnf
  refine Tri.seqK ?_
  refine Tri.seqK ?_
  refine Tri.run (G := gm_internal_stringslite_TrimSuffix) tyOk mixed ?_
  conv => whnf
  replace h := bind_some h
  obtain ⟨y5, q6, h⟩ := h
  refine PureP.mono (internal_stringslite_HasSuffix_walk s suffix y5 q6) ?_
  rintro _ rfl
  conv => whnf
  refine Tri.cond rfl (fun c7 => ?_) (fun c7 => ?_)
  · replace h := if_t c7 h
    refine Tri.seqK ?_
    refine Tri.run (G := gm_internal_stringslite_TrimSuffix) tyOk mixed ?_
    conv => whnf
    refine ⟨⟨(s.length : Int), rfl, ?_⟩⟩
    conv => whnf
    refine ⟨⟨(suffix.length : Int), rfl, ?_⟩⟩
    conv => whnf
    replace h := need_some h
    obtain ⟨p8, h⟩ := h
    refine ⟨p8, ?_⟩
    conv => whnf
    refine ⟨⟨bs (cut s 0 (IntKind.i64.wrap ((s.length : Int) - (suffix.length : Int)))), bs_cut _ _ _, ?_⟩⟩
    conv => whnf
    refine Tri.run (G := gm_internal_stringslite_TrimSuffix) tyOk mixed ?_
    conv => whnf
    refine fin_here ?_
    conv => whnf
    obtain rfl := Option.some.inj h
    rfl
  · replace h := if_f c7 h
    refine Tri.run (G := gm_internal_stringslite_TrimSuffix) tyOk mixed ?_
    conv => whnf
    refine Tri.seqK ?_
    refine Tri.run (G := gm_internal_stringslite_TrimSuffix) tyOk mixed ?_
    conv => whnf
    refine Tri.run (G := gm_internal_stringslite_TrimSuffix) tyOk mixed ?_
    conv => whnf
    refine fin_here ?_
    conv => whnf
    obtain rfl := Option.some.inj h
    rfl
noncomputable def strings_TrimSuffix (s : Str) (suffix : Str) : Option (Str) :=
  (internal_stringslite_TrimSuffix s suffix).bind fun y1 =>
  some y1
def gm_strings_TrimSuffix : Gm := ⟨tys, [], [], []⟩
theorem strings_TrimSuffix_walk (s : Str) (suffix : Str) (r : Str) (h : strings_TrimSuffix s suffix = some r) : PureP Try.prog 36 [.v (.string (bs s)), .v (.string (bs suffix))] (fun a => a = .v (.string (bs r))) := by
  unfold strings_TrimSuffix at h
  refine pureW (G := gm_strings_TrimSuffix) tyOk Try.func36 rfl (by kernel_rfl) (by simp [Try.f36]) ?_
  refine Tri.seqK ?_
  refine Tri.run (G := gm_strings_TrimSuffix) tyOk mixed ?_
  conv => whnf
  refine Tri.seqK ?_
  refine Tri.run (G := gm_strings_TrimSuffix) tyOk mixed ?_
  conv => whnf
  replace h := bind_some h
  obtain ⟨y1, q2, h⟩ := h
  refine PureP.mono (internal_stringslite_TrimSuffix_walk s suffix y1 q2) ?_
  rintro _ rfl
  conv => whnf
  refine Tri.run (G := gm_strings_TrimSuffix) tyOk mixed ?_
  conv => whnf
  refine fin_here ?_
  conv => whnf
  obtain rfl := Option.some.inj h
  rfl
noncomputable def wal_Name (seg : Int) : Option (Str) :=
  (wal_may seg).bind fun y4 =>
  if (!y4) then
    some ([] : Str)
  else
    (dec_Num (IntKind.u64.wrap seg)).bind fun y7 =>
    (strings_TrimSuffix y7 [59]).bind fun y9 =>
    need (([119] : Str).length + y9.length ≤ 9223372036854775807) <|
    some ([119] ++ y9)
def gm_wal_Name : Gm := ⟨tys, [], [], []⟩
theorem wal_Name_walk (seg : Int) (r : Str) (h : wal_Name seg = some r) : PureP Try.prog 15 [.v (.int .i64 seg)] (fun a => a = .v (.string (bs r))) := by
  unfold wal_Name at h
  refine pureW (G := gm_wal_Name) tyOk Try.func15 rfl (by kernel_rfl) (by simp [Try.f15]) ?_
  refine Tri.seqK ?_
  refine Tri.run (G := gm_wal_Name) tyOk mixed ?_
  conv => whnf
  refine Tri.seqK ?_
  refine Tri.seqK ?_
  refine Tri.run (G := gm_wal_Name) tyOk mixed ?_
  conv => whnf
  replace h := bind_some h
  obtain ⟨y4, q5, h⟩ := h
  refine PureP.mono (wal_may_walk seg y4 q5) ?_
  rintro _ rfl
  conv => whnf
  refine Tri.cond rfl (fun c6 => ?_) (fun c6 => ?_)
  · replace h := if_t c6 h
    refine Tri.seqK ?_
    refine Tri.run (G := gm_wal_Name) tyOk mixed ?_
    conv => whnf
    refine Tri.run (G := gm_wal_Name) tyOk mixed ?_
    conv => whnf
    refine fin_here ?_
    conv => whnf
    obtain rfl := Option.some.inj h
    rfl
  · replace h := if_f c6 h
    refine Tri.run (G := gm_wal_Name) tyOk mixed ?_
    conv => whnf
    refine Tri.seqK ?_
    refine Tri.run (G := gm_wal_Name) tyOk mixed ?_
    conv => whnf
    refine ⟨⟨(IntKind.u64.wrap seg), rfl, ?_⟩⟩
    conv => whnf
    replace h := bind_some h
    obtain ⟨y7, q8, h⟩ := h
    refine PureP.mono (dec_Num_walk (IntKind.u64.wrap seg) y7 q8) ?_
    rintro _ rfl
    conv => whnf
    replace h := bind_some h
    obtain ⟨y9, q10, h⟩ := h
    refine PureP.mono (strings_TrimSuffix_walk y7 [59] y9 q10) ?_
    rintro _ rfl
    conv => whnf
    replace h := need_some h
    obtain ⟨p11, h⟩ := h
    refine ⟨p11, ?_⟩
    conv => whnf
    refine ⟨⟨bs ([119] ++ y9), bs_append _ _, ?_⟩⟩
    conv => whnf
    refine Tri.run (G := gm_wal_Name) tyOk mixed ?_
    conv => whnf
    refine fin_here ?_
    conv => whnf
    obtain rfl := Option.some.inj h
    rfl
noncomputable def disk_at_1 (f : File) (v : Str) : Option (Bool) :=
  some (decide (f.Name = v))
def gm_disk_at_1 : Gm := ⟨tys, [], [], []⟩
theorem disk_at_1_walk (f : File) (v : Str) (r : Bool) (h : disk_at_1 f v = some r) : CallP Try.prog 77 [.var 9 [.v (.string (bs v))]] [.agg [.v (.string (bs f.Name)), .v (.string (bs f.Safe)), .v (.string (bs f.Wait))], .ptr 0 0] (fun a H' => a = .v (.bool r) ∧ H'.take ([.var 9 [.v (.string (bs v))]] : List Ob).length = [.var 9 [.v (.string (bs v))]]) := by
  unfold disk_at_1 at h
  refine callW (G := gm_disk_at_1) tyOk Try.func77 rfl (by kernel_rfl) (by simp [Try.f77]) ?_
  refine Tri.seqK ?_
  refine Tri.run (G := gm_disk_at_1) tyOk mixed ?_
  conv => whnf
  refine Tri.seqK ?_
  refine Tri.run (G := gm_disk_at_1) tyOk mixed ?_
  conv => whnf
  refine ⟨⟨(decide (f.Name = v)), bs_eq _ _, ?_⟩⟩
  conv => whnf
  refine Tri.run (G := gm_disk_at_1) tyOk mixed ?_
  conv => whnf
  refine fin_pre (S' := ⟨8, 1, ofRegs [(3, .v (.bool (decide (f.Name = v))))], [.var 9 [.v (.string (bs v))]]⟩) (weak_fin _ rfl rfl rfl (.cons (.same rfl) (LeH.rest)) (.cons (.one (.same rfl)) (.nil)) rfl rfl) ?_
  conv => whnf
  obtain rfl := Option.some.inj h
  exact ⟨rfl, rfl⟩
noncomputable def slices_IndexFunc_File__disk_at_1_l4 (s : (List File)) (v : Str) (a164 : Int) : Option ((Int) ⊕ ((Int) ⊕ (Unit))) :=
  if (decide (a164 < (s.length : Int))) then
    (ix s a164).bind fun x179 =>
    (disk_at_1 x179 v).bind fun y181 =>
    if y181 then
      some (.inr (.inl a164))
    else
      some (.inl (IntKind.i64.wrap (a164 + 1)))
  else
    some (.inr (.inr ()))
noncomputable def slices_IndexFunc_File__disk_at_1 (s : (List File)) (v : Str) : Option (Int) :=
  (loop (fun (s169 : Int) => slices_IndexFunc_File__disk_at_1_l4 s v s169) (0 : Int)).bind fun (y165 : (Int) ⊕ (Unit)) =>
  match y165 with
  | (.inl v167) =>
    some v167
  | (.inr v168) =>
    some (-1)
def gm_slices_IndexFunc_File__disk_at_1 : Gm := ⟨tys, [77], [], []⟩
theorem slices_IndexFunc_File__disk_at_1_walk (s : (List File)) (v : Str) (r : Int) (h : slices_IndexFunc_File__disk_at_1 s v = some r) : CallP Try.prog 76 [.var 9 [.v (.string (bs v))]] [.sl (List.map encFile s), .fn (.func 77) [] [.ptr 0 0]] (fun a H' => a = .v (.int .i64 r) ∧ H'.take ([.var 9 [.v (.string (bs v))]] : List Ob).length = [.var 9 [.v (.string (bs v))]]) := by
  unfold slices_IndexFunc_File__disk_at_1 at h
  refine callW (G := gm_slices_IndexFunc_File__disk_at_1) tyOk Try.func76 rfl (by kernel_rfl) (by simp [Try.f76]) ?_
  refine Tri.seqK ?_
  refine Tri.run (G := gm_slices_IndexFunc_File__disk_at_1) tyOk mixed ?_
  conv => whnf
  refine Tri.seqK ?_
  refine Tri.seqK ?_
  refine Tri.run (G := gm_slices_IndexFunc_File__disk_at_1) tyOk mixed ?_
  conv => whnf
  refine ⟨⟨(s.length : Int), (len_map _ _).symm, ?_⟩⟩
  conv => whnf
  refine Tri.block ?_
  replace h := bind_some h
  obtain ⟨y165, q166, h⟩ := h
  refine Tri.cut (fun ex S' => (∃ v167 : Int, y165 = (.inl v167) ∧ ex = .ret ∧ Weak S' ⟨19, 1, ofRegs [(4, .v (.int .i64 v167))], [.var 9 [.v (.string (bs v))]]⟩) ∨ (∃ v168 : Unit, y165 = (.inr v168) ∧ ex = (.exit 0) ∧ Weak S' ⟨19, 1, ofRegs [], [.var 9 [.v (.string (bs v))]]⟩)) ?_ ?_
  · refine Tri.loopF (fun (s169 : Int) => (⟨19, 1, ofRegs [(0, .sl (List.map encFile s)), (1, .fn (.func 77) [] [.ptr 0 0]), (7, .v (.int .i64 (s.length : Int))), (8, .v (.int .i64 s169))], [.var 9 [.v (.string (bs v))]]⟩ : St)) q166 (weak_fin _ rfl rfl rfl (.cons (.same rfl) (LeH.rest)) (.cons (.one (.same rfl)) (.cons (.one (.same rfl)) (.cons (.one (.same rfl)) (.cons (.one (.same rfl)) (.nil))))) rfl rfl) ?_
    rintro a164 v170 hv r171
    have hv : slices_IndexFunc_File__disk_at_1_l4 s v a164 = some v170 := hv
    unfold slices_IndexFunc_File__disk_at_1_l4 at hv
    refine Tri.seqK ?_
    refine Tri.run (G := gm_slices_IndexFunc_File__disk_at_1) tyOk mixed ?_
    conv => whnf
    refine Tri.seqK ?_
    refine Tri.cond rfl (fun c173 => ?_) (fun c173 => ?_)
    · replace hv := if_t c173 hv
      refine Tri.run (G := gm_slices_IndexFunc_File__disk_at_1) tyOk mixed ?_
      conv => whnf
      refine Tri.seqK ?_
      refine Tri.block ?_
      refine Tri.seqK ?_
      refine Tri.run (G := gm_slices_IndexFunc_File__disk_at_1) tyOk mixed ?_
      conv => whnf
      refine Tri.seqK ?_
      refine Tri.run (G := gm_slices_IndexFunc_File__disk_at_1) tyOk mixed ?_
      conv => whnf
      replace hv := bind_some hv
      obtain ⟨x179, q180, hv⟩ := hv
      refine ⟨(ix_some q180).1, ?_⟩
      conv => whnf
      refine ⟨⟨_, map_get encFile (ix_some q180).2, ?_⟩⟩
      conv => whnf
      refine ⟨rfl, ?_⟩
      conv => whnf
      replace hv := bind_some hv
      obtain ⟨y181, q182, hv⟩ := hv
      refine CallP.use (disk_at_1_walk x179 v y181 q182) [0] rfl rfl rfl rfl rfl rfl rfl rfl rfl ?_
      conv => whnf
      refine Tri.cond rfl (fun c183 => ?_) (fun c183 => ?_)
      · replace hv := if_t c183 hv
        refine Tri.seqK ?_
        refine Tri.run (G := gm_slices_IndexFunc_File__disk_at_1) tyOk mixed ?_
        conv => whnf
        refine Tri.run (G := gm_slices_IndexFunc_File__disk_at_1) tyOk mixed ?_
        conv => whnf
        obtain rfl := Option.some.inj hv
        obtain rfl := r171 _ rfl
        exact Or.inl ⟨_, rfl, rfl, weak_fin _ rfl rfl rfl (.cons (.same rfl) (LeH.rest)) (.cons (.one (.same rfl)) (.nil)) rfl rfl⟩
      · replace hv := if_f c183 hv
        refine Tri.run (G := gm_slices_IndexFunc_File__disk_at_1) tyOk mixed ?_
        conv => whnf
        refine Tri.run (G := gm_slices_IndexFunc_File__disk_at_1) tyOk mixed ?_
        conv => whnf
        obtain rfl := Option.some.inj hv
        exact ⟨_, rfl, weak_fin _ rfl rfl rfl (.cons (.same rfl) (LeH.rest)) (.cons (.one (.same rfl)) (.cons (.one (.same rfl)) (.cons (.one (.same rfl)) (.cons (.one (.same rfl)) (.nil))))) rfl rfl⟩
    · replace hv := if_f c173 hv
      refine Tri.run (G := gm_slices_IndexFunc_File__disk_at_1) tyOk mixed ?_
      conv => whnf
      obtain rfl := Option.some.inj hv
      obtain rfl := r171 _ rfl
      exact Or.inr (⟨_, rfl, rfl, weak_fin _ rfl rfl rfl (.cons (.same rfl) (LeH.rest)) (.nil) rfl rfl⟩)
  · rintro ex S' (⟨v167, rfl, rfl, w184⟩ | ⟨v168, rfl, rfl, w184⟩)
    · dsimp only at h
      conv => whnf
      refine fin_pre (S' := ⟨19, 1, ofRegs [(4, .v (.int .i64 v167))], [.var 9 [.v (.string (bs v))]]⟩) (Weak.trans w184 (weak_fin _ rfl rfl rfl (.cons (.same rfl) (LeH.rest)) (.cons (.one (.same rfl)) (.nil)) rfl rfl)) ?_
      conv => whnf
      obtain rfl := Option.some.inj h
      exact ⟨rfl, rfl⟩
    · dsimp only at h
      conv => whnf
      refine Tri.weak w184 ?_
      refine Tri.seqK ?_
      refine Tri.run (G := gm_slices_IndexFunc_File__disk_at_1) tyOk mixed ?_
      conv => whnf
      refine Tri.run (G := gm_slices_IndexFunc_File__disk_at_1) tyOk mixed ?_
      conv => whnf
      refine fin_pre (S' := ⟨19, 1, ofRegs [(4, .v (.int .i64 (-1)))], [.var 9 [.v (.string (bs v))]]⟩) (weak_fin _ rfl rfl rfl (.cons (.same rfl) (LeH.rest)) (.cons (.one (.same rfl)) (.nil)) rfl rfl) ?_
      conv => whnf
      obtain rfl := Option.some.inj h
      exact ⟨rfl, rfl⟩
noncomputable def disk_at (d : Disk) (name : Str) : Option (Int) :=
  (slices_IndexFunc_File__disk_at_1 d.Files name).bind fun y1 =>
  some y1
def gm_disk_at : Gm := ⟨tys, [76], [], []⟩
theorem disk_at_walk (d : Disk) (name : Str) (r : Int) (h : disk_at d name = some r) : PureP Try.prog 59 [.agg [.sl (List.map encFile d.Files), .v (.int .i64 d.Room), .v (.int .i64 d.Fuse), .v (.bool d.Off)], .v (.string (bs name))] (fun a => a = .v (.int .i64 r)) := by
  unfold disk_at at h
  refine pureW (G := gm_disk_at) tyOk Try.func59 rfl (by kernel_rfl) (by simp [Try.f59]) ?_
  refine Tri.seqK ?_
  refine Tri.run (G := gm_disk_at) tyOk mixed ?_
  conv => whnf
  refine Tri.seqK ?_
  refine Tri.run (G := gm_disk_at) tyOk mixed ?_
  conv => whnf
  replace h := bind_some h
  obtain ⟨y1, q2, h⟩ := h
  refine CallP.use (slices_IndexFunc_File__disk_at_1_walk d.Files name y1 q2) [1] rfl rfl rfl rfl rfl rfl rfl rfl rfl ?_
  conv => whnf
  refine Tri.run (G := gm_disk_at) tyOk mixed ?_
  conv => whnf
  refine fin_here ?_
  conv => whnf
  obtain rfl := Option.some.inj h
  rfl
noncomputable def disk_Find (d : Disk) (name : Str) : Option (File × Bool) :=
  (disk_at d name).bind fun y1 =>
  if (decide (y1 < 0)) then
    some (({ Name := [], Safe := [], Wait := [] } : File), false)
  else
    (ix d.Files y1).bind fun x5 =>
    some (x5, true)
def gm_disk_Find : Gm := ⟨tys, [], [], []⟩
theorem disk_Find_walk (d : Disk) (name : Str) (r : File × Bool) (h : disk_Find d name = some r) : PureP Try.prog 45 [.agg [.sl (List.map encFile d.Files), .v (.int .i64 d.Room), .v (.int .i64 d.Fuse), .v (.bool d.Off)], .v (.string (bs name))] (fun a => a = .tup [.agg [.v (.string (bs r.1.Name)), .v (.string (bs r.1.Safe)), .v (.string (bs r.1.Wait))], .v (.bool r.2)]) := by
  unfold disk_Find at h
  refine pureW (G := gm_disk_Find) tyOk Try.func45 rfl (by kernel_rfl) (by simp [Try.f45]) ?_
  refine Tri.seqK ?_
  refine Tri.run (G := gm_disk_Find) tyOk mixed ?_
  conv => whnf
  refine Tri.seqK ?_
  refine Tri.run (G := gm_disk_Find) tyOk mixed ?_
  conv => whnf
  replace h := bind_some h
  obtain ⟨y1, q2, h⟩ := h
  refine PureP.mono (disk_at_walk d name y1 q2) ?_
  rintro _ rfl
  conv => whnf
  refine Tri.seqK ?_
  refine Tri.seqK ?_
  refine Tri.run (G := gm_disk_Find) tyOk mixed ?_
  conv => whnf
  refine Tri.cond rfl (fun c4 => ?_) (fun c4 => ?_)
  · replace h := if_t c4 h
    refine Tri.seqK ?_
    refine Tri.run (G := gm_disk_Find) tyOk mixed ?_
    conv => whnf
    refine Tri.run (G := gm_disk_Find) tyOk mixed ?_
    conv => whnf
    refine fin_here ?_
    conv => whnf
    obtain rfl := Option.some.inj h
    rfl
  · replace h := if_f c4 h
    refine Tri.run (G := gm_disk_Find) tyOk mixed ?_
    conv => whnf
    refine Tri.seqK ?_
    refine Tri.run (G := gm_disk_Find) tyOk mixed ?_
    conv => whnf
    replace h := bind_some h
    obtain ⟨x5, q6, h⟩ := h
    refine ⟨(ix_some q6).1, ?_⟩
    conv => whnf
    refine ⟨⟨_, map_get encFile (ix_some q6).2, ?_⟩⟩
    conv => whnf
    refine ⟨rfl, ?_⟩
    conv => whnf
    refine Tri.run (G := gm_disk_Find) tyOk mixed ?_
    conv => whnf
    refine fin_here ?_
    conv => whnf
    obtain rfl := Option.some.inj h
    rfl
noncomputable def disk_Read (d : Disk) (name : Str) : Option (Str × Int) :=
  (disk_Find d name).bind fun y1 =>
  if (!y1.2) then
    some ([], 7)
  else
    need (y1.1.Safe.length + y1.1.Wait.length ≤ 9223372036854775807) <|
    some ((y1.1.Safe ++ y1.1.Wait), 0)
def gm_disk_Read : Gm := ⟨tys, [], [], []⟩
theorem disk_Read_walk (d : Disk) (name : Str) (r : Str × Int) (h : disk_Read d name = some r) : PureP Try.prog 39 [.agg [.sl (List.map encFile d.Files), .v (.int .i64 d.Room), .v (.int .i64 d.Fuse), .v (.bool d.Off)], .v (.string (bs name))] (fun a => a = .tup [.v (.string (bs r.1)), .v (.int .i64 r.2)]) := by
  unfold disk_Read at h
  refine pureW (G := gm_disk_Read) tyOk Try.func39 rfl (by kernel_rfl) (by simp [Try.f39]) ?_
  refine Tri.seqK ?_
  refine Tri.run (G := gm_disk_Read) tyOk mixed ?_
  conv => whnf
  refine Tri.seqK ?_
  refine Tri.run (G := gm_disk_Read) tyOk mixed ?_
  conv => whnf
  replace h := bind_some h
  obtain ⟨y1, q2, h⟩ := h
  refine PureP.mono (disk_Find_walk d name y1 q2) ?_
  rintro _ rfl
  conv => whnf
  refine Tri.seqK ?_
  refine Tri.seqK ?_
  refine Tri.run (G := gm_disk_Read) tyOk mixed ?_
  conv => whnf
  refine Tri.cond rfl (fun c4 => ?_) (fun c4 => ?_)
  · replace h := if_t c4 h
    refine Tri.seqK ?_
    refine Tri.run (G := gm_disk_Read) tyOk mixed ?_
    conv => whnf
    refine Tri.run (G := gm_disk_Read) tyOk mixed ?_
    conv => whnf
    refine fin_here ?_
    conv => whnf
    obtain rfl := Option.some.inj h
    rfl
  · replace h := if_f c4 h
    refine Tri.run (G := gm_disk_Read) tyOk mixed ?_
    conv => whnf
    refine Tri.seqK ?_
    refine Tri.run (G := gm_disk_Read) tyOk mixed ?_
    conv => whnf
    replace h := need_some h
    obtain ⟨p5, h⟩ := h
    refine ⟨p5, ?_⟩
    conv => whnf
    refine ⟨⟨bs (y1.1.Safe ++ y1.1.Wait), bs_append _ _, ?_⟩⟩
    conv => whnf
    refine Tri.run (G := gm_disk_Read) tyOk mixed ?_
    conv => whnf
    refine fin_here ?_
    conv => whnf
    obtain rfl := Option.some.inj h
    rfl
noncomputable def disk_set_File (l : (List File)) (i : Int) (x : File) : Option ((List File)) :=
  need (l.length * 48 ≤ 140737488355328) <|
  (ix l i).bind fun x2 =>
  some (List.set l (i).toNat x)
def gm_disk_set_File : Gm := ⟨tys, [], [(63, 69, 3)], []⟩
theorem disk_set_File_walk (l : (List File)) (i : Int) (x : File) (r : (List File)) (h : disk_set_File l i x = some r) : PureP Try.prog 60 [.sl (List.map encFile l), .v (.int .i64 i), .agg [.v (.string (bs x.Name)), .v (.string (bs x.Safe)), .v (.string (bs x.Wait))]] (fun a => a = .sl (List.map encFile r)) := by
  unfold disk_set_File at h
  refine pureW (G := gm_disk_set_File) tyOk Try.func60 rfl (by kernel_rfl) (by simp [Try.f60]) ?_
  refine Tri.seqK ?_
  refine Tri.run (G := gm_disk_set_File) tyOk mixed ?_
  conv => whnf
  refine Tri.seqK ?_
  refine Tri.run (G := gm_disk_set_File) tyOk mixed ?_
  conv => whnf
  replace h := need_some h
  obtain ⟨p1, h⟩ := h
  refine FreshP.mono (clone_63 l p1) ?_
  rintro _ rfl
  conv => whnf
  refine Tri.seqK ?_
  refine Tri.run (G := gm_disk_set_File) tyOk mixed ?_
  conv => whnf
  replace h := bind_some h
  obtain ⟨x2, q3, h⟩ := h
  refine ⟨⟨rfl, (ix_lt q3).1, by have := ix_lt q3; simp only [List.length_map, List.length_set, List.length_cons, List.length_nil] at *; omega⟩, ?_⟩
  conv => whnf
  refine ⟨rfl, ?_⟩
  conv => whnf
  refine ⟨⟨_, map_get encFile (ix_some q3).2, ?_⟩⟩
  conv => whnf
  refine ⟨Nat.le_of_ble_eq_true rfl, ?_⟩
  conv => whnf
  refine ⟨⟨List.map encFile (List.set l (i).toNat x), map_set encFile _ _ _ rfl, ?_⟩⟩
  conv => whnf
  refine Tri.seqK ?_
  refine Tri.run (G := gm_disk_set_File) tyOk mixed ?_
  conv => whnf
  refine Tri.run (G := gm_disk_set_File) tyOk mixed ?_
  conv => whnf
  refine fin_here ?_
  conv => whnf
  refine ⟨by simp, ?_⟩
  conv => whnf
  obtain rfl := Option.some.inj h
  rfl
noncomputable def disk_Sync (d : Disk) (name : Str) : Option (Disk × Int) :=
  (disk_at d name).bind fun y1 =>
  if d.Off then
    some (d, 6)
  else
    if (decide (y1 < 0)) then
      some (d, 7)
    else
      (ix d.Files y1).bind fun x7 =>
      need (x7.Safe.length + x7.Wait.length ≤ 9223372036854775807) <|
      (disk_set_File d.Files y1 ({ Name := x7.Name, Safe := (x7.Safe ++ x7.Wait), Wait := [] } : File)).bind fun y10 =>
      some (({ Files := y10, Room := d.Room, Fuse := d.Fuse, Off := d.Off } : Disk), 0)
def gm_disk_Sync : Gm := ⟨tys, [], [], []⟩
theorem disk_Sync_walk (d : Disk) (name : Str) (r : Disk × Int) (h : disk_Sync d name = some r) : PureP Try.prog 40 [.agg [.sl (List.map encFile d.Files), .v (.int .i64 d.Room), .v (.int .i64 d.Fuse), .v (.bool d.Off)], .v (.string (bs name))] (fun a => a = .tup [.agg [.sl (List.map encFile r.1.Files), .v (.int .i64 r.1.Room), .v (.int .i64 r.1.Fuse), .v (.bool r.1.Off)], .v (.int .i64 r.2)]) := by
  unfold disk_Sync at h
  refine pureW (G := gm_disk_Sync) tyOk Try.func40 rfl (by kernel_rfl) (by simp [Try.f40]) ?_
  refine Tri.seqK ?_
  refine Tri.run (G := gm_disk_Sync) tyOk mixed ?_
  conv => whnf
  refine Tri.seqK ?_
  refine Tri.run (G := gm_disk_Sync) tyOk mixed ?_
  conv => whnf
  replace h := bind_some h
  obtain ⟨y1, q2, h⟩ := h
  refine PureP.mono (disk_at_walk d name y1 q2) ?_
  rintro _ rfl
  conv => whnf
  refine Tri.seqK ?_
  refine Tri.block ?_
  refine Tri.seqK ?_
  refine Tri.run (G := gm_disk_Sync) tyOk mixed ?_
  conv => whnf
  refine Tri.cond rfl (fun c5 => ?_) (fun c5 => ?_)
  · replace h := if_t c5 h
    refine Tri.seqK ?_
    refine Tri.run (G := gm_disk_Sync) tyOk mixed ?_
    conv => whnf
    refine Tri.run (G := gm_disk_Sync) tyOk mixed ?_
    conv => whnf
    refine fin_here ?_
    conv => whnf
    obtain rfl := Option.some.inj h
    rfl
  · replace h := if_f c5 h
    refine Tri.seqK ?_
    refine Tri.run (G := gm_disk_Sync) tyOk mixed ?_
    conv => whnf
    refine Tri.cond rfl (fun c6 => ?_) (fun c6 => ?_)
    · replace h := if_t c6 h
      refine Tri.seqK ?_
      refine Tri.run (G := gm_disk_Sync) tyOk mixed ?_
      conv => whnf
      refine Tri.run (G := gm_disk_Sync) tyOk mixed ?_
      conv => whnf
      refine fin_here ?_
      conv => whnf
      obtain rfl := Option.some.inj h
      rfl
    · replace h := if_f c6 h
      refine Tri.run (G := gm_disk_Sync) tyOk mixed ?_
      conv => whnf
      refine Tri.seqK ?_
      refine Tri.run (G := gm_disk_Sync) tyOk mixed ?_
      conv => whnf
      replace h := bind_some h
      obtain ⟨x7, q8, h⟩ := h
      refine ⟨(ix_some q8).1, ?_⟩
      conv => whnf
      refine ⟨⟨_, map_get encFile (ix_some q8).2, ?_⟩⟩
      conv => whnf
      refine ⟨rfl, ?_⟩
      conv => whnf
      refine Tri.seqK ?_
      refine Tri.run (G := gm_disk_Sync) tyOk mixed ?_
      conv => whnf
      replace h := need_some h
      obtain ⟨p9, h⟩ := h
      refine ⟨p9, ?_⟩
      conv => whnf
      refine ⟨⟨bs (x7.Safe ++ x7.Wait), bs_append _ _, ?_⟩⟩
      conv => whnf
      refine Tri.seqK ?_
      refine Tri.run (G := gm_disk_Sync) tyOk mixed ?_
      conv => whnf
      replace h := bind_some h
      obtain ⟨y10, q11, h⟩ := h
      refine PureP.mono (disk_set_File_walk d.Files y1 ({ Name := x7.Name, Safe := (x7.Safe ++ x7.Wait), Wait := [] } : File) y10 q11) ?_
      rintro _ rfl
      conv => whnf
      refine Tri.seqK ?_
      refine Tri.run (G := gm_disk_Sync) tyOk mixed ?_
      conv => whnf
      refine Tri.run (G := gm_disk_Sync) tyOk mixed ?_
      conv => whnf
      refine fin_here ?_
      conv => whnf
      obtain rfl := Option.some.inj h
      rfl
noncomputable def dec_Text (t : Str) : Option (Str) :=
  (dec_Num (IntKind.u64.wrap (t.length : Int))).bind fun y1 =>
  need (y1.length + t.length ≤ 9223372036854775807) <|
  some (y1 ++ t)
def gm_dec_Text : Gm := ⟨tys, [], [], []⟩
theorem dec_Text_walk (t : Str) (r : Str) (h : dec_Text t = some r) : PureP Try.prog 64 [.v (.string (bs t))] (fun a => a = .v (.string (bs r))) := by
  unfold dec_Text at h
  refine pureW (G := gm_dec_Text) tyOk Try.func64 rfl (by kernel_rfl) (by simp [Try.f64]) ?_
  refine Tri.seqK ?_
  refine Tri.run (G := gm_dec_Text) tyOk mixed ?_
  conv => whnf
  refine Tri.seqK ?_
  refine Tri.run (G := gm_dec_Text) tyOk mixed ?_
  conv => whnf
  refine ⟨⟨(t.length : Int), rfl, ?_⟩⟩
  conv => whnf
  refine ⟨⟨(IntKind.u64.wrap (t.length : Int)), rfl, ?_⟩⟩
  conv => whnf
  replace h := bind_some h
  obtain ⟨y1, q2, h⟩ := h
  refine PureP.mono (dec_Num_walk (IntKind.u64.wrap (t.length : Int)) y1 q2) ?_
  rintro _ rfl
  conv => whnf
  replace h := need_some h
  obtain ⟨p3, h⟩ := h
  refine ⟨p3, ?_⟩
  conv => whnf
  refine ⟨⟨bs (y1 ++ t), bs_append _ _, ?_⟩⟩
  conv => whnf
  refine Tri.run (G := gm_dec_Text) tyOk mixed ?_
  conv => whnf
  refine fin_here ?_
  conv => whnf
  obtain rfl := Option.some.inj h
  rfl
noncomputable def sum_Of_1 (b : Int) (v : (Int × Int)) : Option ((Int × Int)) :=
  some ((Int.tmod (IntKind.u32.wrap (v.1 + (IntKind.u32.wrap b))) 65521), (Int.tmod (IntKind.u32.wrap (v.2 + (Int.tmod (IntKind.u32.wrap (v.1 + (IntKind.u32.wrap b))) 65521))) 65521))
def gm_sum_Of_1 : Gm := ⟨tys, [], [], []⟩
theorem sum_Of_1_walk (b : Int) (v : (Int × Int)) (r : (Int × Int)) (h : sum_Of_1 b v = some r) : CallP Try.prog 78 [.var 111 [.v (.int .u32 v.1), .v (.int .u32 v.2)]] [.v (.int .u8 b), .ptr 0 0] (fun a H' => a = .tup [] ∧ H'.take ([.var 111 [.v (.int .u32 r.1), .v (.int .u32 r.2)]] : List Ob).length = [.var 111 [.v (.int .u32 r.1), .v (.int .u32 r.2)]]) := by
  unfold sum_Of_1 at h
  refine callW (G := gm_sum_Of_1) tyOk Try.func78 rfl (by kernel_rfl) (by simp [Try.f78]) ?_
  refine Tri.seqK ?_
  refine Tri.run (G := gm_sum_Of_1) tyOk mixed ?_
  conv => whnf
  refine ⟨by decide, ?_⟩
  conv => whnf
  refine ⟨⟨(IntKind.u32.wrap b), rfl, ?_⟩⟩
  conv => whnf
  refine ⟨by decide, ?_⟩
  conv => whnf
  refine ⟨by decide, ?_⟩
  conv => whnf
  refine Tri.run (G := gm_sum_Of_1) tyOk mixed ?_
  conv => whnf
  refine ⟨by decide, ?_⟩
  conv => whnf
  refine ⟨by decide, ?_⟩
  conv => whnf
  refine ⟨by decide, ?_⟩
  conv => whnf
  refine ⟨by decide, ?_⟩
  conv => whnf
  refine fin_pre (S' := ⟨17, 1, ofRegs [], [.var 111 [.v (.int .u32 (Int.tmod (IntKind.u32.wrap (v.1 + (IntKind.u32.wrap b))) 65521)), .v (.int .u32 (Int.tmod (IntKind.u32.wrap (v.2 + (Int.tmod (IntKind.u32.wrap (v.1 + (IntKind.u32.wrap b))) 65521))) 65521))]]⟩) (weak_fin _ rfl rfl rfl (.cons (.same rfl) (LeH.rest)) (.nil) rfl rfl) ?_
  conv => whnf
  obtain rfl := Option.some.inj h
  exact ⟨rfl, rfl⟩
noncomputable def sum_Of_l2 (s : Str) (a46 : Int) (a47 : Int) (a48 : Int) : Option ((Int × Int × Int) ⊕ (Int × Int)) :=
  if (decide (a46 < (s.length : Int))) then
    (ix s a46).bind fun x56 =>
    (sum_Of_1 (x56.toNat : Int) (a47, a48)).bind fun y58 =>
    some (.inl ((IntKind.i64.wrap (a46 + 1)), y58.1, y58.2))
  else
    some (.inr (a47, a48))
noncomputable def sum_Of (s : Str) : Option (Int) :=
  (loop (fun (s51 : Int × Int × Int) => sum_Of_l2 s s51.1 s51.2.1 s51.2.2) ((0 : Int), (1 : Int), (0 : Int))).bind fun (y49 : Int × Int) =>
  some (IntKind.u32.wrap ((BitVec.ofInt IntKind.u32.bits (IntKind.u32.wrap (y49.2 * 2 ^ (min (16 : Int).toNat IntKind.u32.bits))) ||| BitVec.ofInt IntKind.u32.bits y49.1).toNat : Int))
def gm_sum_Of : Gm := ⟨tys, [78], [], []⟩
theorem sum_Of_walk (s : Str) (r : Int) (h : sum_Of s = some r) : PureP Try.prog 65 [.v (.string (bs s))] (fun a => a = .v (.int .u32 r)) := by
  unfold sum_Of at h
  refine pureW (G := gm_sum_Of) tyOk Try.func65 rfl (by kernel_rfl) (by simp [Try.f65]) ?_
  refine Tri.seqK ?_
  refine Tri.run (G := gm_sum_Of) tyOk mixed ?_
  conv => whnf
  refine Tri.seqK ?_
  refine Tri.run (G := gm_sum_Of) tyOk mixed ?_
  conv => whnf
  refine Tri.seqK ?_
  refine Tri.run (G := gm_sum_Of) tyOk mixed ?_
  conv => whnf
  refine Tri.seqK ?_
  refine Tri.seqK ?_
  refine Tri.run (G := gm_sum_Of) tyOk mixed ?_
  conv => whnf
  refine ⟨⟨(s.length : Int), rfl, ?_⟩⟩
  conv => whnf
  refine Tri.block ?_
  replace h := bind_some h
  obtain ⟨y49, q50, h⟩ := h
  refine Tri.cut (fun ex S' => ex = (.exit 0) ∧ Weak S' ⟨25, 0, ofRegs [(3, .ptr 0 0)], [.var 111 [.v (.int .u32 y49.1), .v (.int .u32 y49.2)]]⟩) ?_ ?_
  · refine Tri.loopF (fun (s51 : Int × Int × Int) => (⟨25, 0, ofRegs [(0, .v (.string (bs s))), (3, .ptr 0 0), (4, .fn (.func 78) [] [.ptr 0 0]), (9, .v (.int .i64 (s.length : Int))), (10, .v (.int .i64 s51.1))], [.var 111 [.v (.int .u32 s51.2.1), .v (.int .u32 s51.2.2)]]⟩ : St)) q50 (weak_fin _ rfl rfl rfl (.cons (.same rfl) (LeH.rest)) (.cons (.one (.same rfl)) (.cons (.one (.same rfl)) (.cons (.one (.same rfl)) (.cons (.one (.same rfl)) (.cons (.one (.same rfl)) (.nil)))))) rfl rfl) ?_
    rintro ⟨a46, a47, a48⟩ v52 hv r53
    have hv : sum_Of_l2 s a46 a47 a48 = some v52 := hv
    unfold sum_Of_l2 at hv
    dsimp only
    refine Tri.seqK ?_
    refine Tri.run (G := gm_sum_Of) tyOk mixed ?_
    conv => whnf
    refine Tri.seqK ?_
    refine Tri.cond rfl (fun c55 => ?_) (fun c55 => ?_)
    · replace hv := if_t c55 hv
      refine Tri.run (G := gm_sum_Of) tyOk mixed ?_
      conv => whnf
      refine Tri.seqK ?_
      refine Tri.block ?_
      refine Tri.seqK ?_
      refine Tri.run (G := gm_sum_Of) tyOk mixed ?_
      conv => whnf
      refine Tri.run (G := gm_sum_Of) tyOk mixed ?_
      conv => whnf
      replace hv := bind_some hv
      obtain ⟨x56, q57, hv⟩ := hv
      refine ⟨bs_bound q57, ?_⟩
      conv => whnf
      refine ⟨⟨(x56.toNat : Int), bs_at q57, ?_⟩⟩
      conv => whnf
      replace hv := bind_some hv
      obtain ⟨y58, q59, hv⟩ := hv
      refine CallP.use (sum_Of_1_walk (x56.toNat : Int) (a47, a48) y58 q59) [0] rfl rfl rfl rfl rfl rfl rfl rfl rfl ?_
      conv => whnf
      refine Tri.run (G := gm_sum_Of) tyOk mixed ?_
      conv => whnf
      obtain rfl := Option.some.inj hv
      exact ⟨_, rfl, weak_fin _ rfl rfl rfl (.cons (.same rfl) (LeH.rest)) (.cons (.one (.same rfl)) (.cons (.one (.same rfl)) (.cons (.one (.same rfl)) (.cons (.one (.same rfl)) (.cons (.one (.same rfl)) (.nil)))))) rfl rfl⟩
    · replace hv := if_f c55 hv
      refine Tri.run (G := gm_sum_Of) tyOk mixed ?_
      conv => whnf
      obtain rfl := Option.some.inj hv
      obtain rfl := r53 _ rfl
      exact ⟨rfl, weak_fin _ rfl rfl rfl (.cons (.same rfl) (LeH.rest)) (.cons (.one (.same rfl)) (.nil)) rfl rfl⟩
  · rintro ex S' ⟨rfl, w60⟩
    conv => whnf
    refine Tri.weak w60 ?_
    refine Tri.seqK ?_
    refine Tri.run (G := gm_sum_Of) tyOk mixed ?_
    conv => whnf
    refine ⟨by decide, ?_⟩
    conv => whnf
    refine ⟨by decide, ?_⟩
    conv => whnf
    refine ⟨by decide, ?_⟩
    conv => whnf
    refine Tri.run (G := gm_sum_Of) tyOk mixed ?_
    conv => whnf
    refine fin_here ?_
    conv => whnf
    obtain rfl := Option.some.inj h
    rfl
noncomputable def sum_Seal (s : Str) : Option (Str) :=
  (dec_Text s).bind fun y1 =>
  (sum_Of s).bind fun y3 =>
  (dec_Num (IntKind.u64.wrap y3)).bind fun y5 =>
  need (y1.length + y5.length ≤ 9223372036854775807) <|
  some (y1 ++ y5)
def gm_sum_Seal : Gm := ⟨tys, [], [], []⟩
theorem sum_Seal_walk (s : Str) (r : Str) (h : sum_Seal s = some r) : PureP Try.prog 42 [.v (.string (bs s))] (fun a => a = .v (.string (bs r))) := by
  unfold sum_Seal at h
  refine pureW (G := gm_sum_Seal) tyOk Try.func42 rfl (by kernel_rfl) (by simp [Try.f42]) ?_
  refine Tri.seqK ?_
  refine Tri.run (G := gm_sum_Seal) tyOk mixed ?_
  conv => whnf
  refine Tri.seqK ?_
  refine Tri.run (G := gm_sum_Seal) tyOk mixed ?_
  conv => whnf
  replace h := bind_some h
  obtain ⟨y1, q2, h⟩ := h
  refine PureP.mono (dec_Text_walk s y1 q2) ?_
  rintro _ rfl
  conv => whnf
  replace h := bind_some h
  obtain ⟨y3, q4, h⟩ := h
  refine PureP.mono (sum_Of_walk s y3 q4) ?_
  rintro _ rfl
  conv => whnf
  refine ⟨⟨(IntKind.u64.wrap y3), rfl, ?_⟩⟩
  conv => whnf
  replace h := bind_some h
  obtain ⟨y5, q6, h⟩ := h
  refine PureP.mono (dec_Num_walk (IntKind.u64.wrap y3) y5 q6) ?_
  rintro _ rfl
  conv => whnf
  replace h := need_some h
  obtain ⟨p7, h⟩ := h
  refine ⟨p7, ?_⟩
  conv => whnf
  refine ⟨⟨bs (y1 ++ y5), bs_append _ _, ?_⟩⟩
  conv => whnf
  refine Tri.run (G := gm_sum_Seal) tyOk mixed ?_
  conv => whnf
  refine fin_here ?_
  conv => whnf
  obtain rfl := Option.some.inj h
  rfl
noncomputable def disk_named (name : Str) : Option (Bool) :=
  if (decide ((name.length : Int) ≥ 1)) then
    some (decide ((name.length : Int) ≤ 16))
  else
    some false
def gm_disk_named : Gm := ⟨tys, [], [], []⟩
theorem disk_named_walk (name : Str) (r : Bool) (h : disk_named name = some r) : PureP Try.prog 61 [.v (.string (bs name))] (fun a => a = .v (.bool r)) := by
  unfold disk_named at h
  refine pureW (G := gm_disk_named) tyOk Try.func61 rfl (by kernel_rfl) (by simp [Try.f61]) ?_
  refine Tri.seqK ?_
  refine Tri.run (G := gm_disk_named) tyOk mixed ?_
  conv => whnf
  refine Tri.seqK ?_
  refine Tri.run (G := gm_disk_named) tyOk mixed ?_
  conv => whnf
  refine ⟨⟨(name.length : Int), rfl, ?_⟩⟩
  conv => whnf
  refine cond_mk (fun c1 => ?_) (fun c1 => ?_)
  · replace h := if_t c1 h
    conv => whnf
    refine ⟨⟨(name.length : Int), rfl, ?_⟩⟩
    conv => whnf
    refine Tri.run (G := gm_disk_named) tyOk mixed ?_
    conv => whnf
    refine fin_here ?_
    conv => whnf
    obtain rfl := Option.some.inj h
    rfl
  · replace h := if_f c1 h
    conv => whnf
    refine Tri.run (G := gm_disk_named) tyOk mixed ?_
    conv => whnf
    refine fin_here ?_
    conv => whnf
    obtain rfl := Option.some.inj h
    rfl
noncomputable def disk_size (f : File) : Option (Int) :=
  some (IntKind.i64.wrap ((f.Safe.length : Int) + (f.Wait.length : Int)))
def gm_disk_size : Gm := ⟨tys, [], [], []⟩
theorem disk_size_walk (f : File) (r : Int) (h : disk_size f = some r) : PureP Try.prog 62 [.agg [.v (.string (bs f.Name)), .v (.string (bs f.Safe)), .v (.string (bs f.Wait))]] (fun a => a = .v (.int .i64 r)) := by
  unfold disk_size at h
  refine pureW (G := gm_disk_size) tyOk Try.func62 rfl (by kernel_rfl) (by simp [Try.f62]) ?_
  refine Tri.seqK ?_
  refine Tri.run (G := gm_disk_size) tyOk mixed ?_
  conv => whnf
  refine Tri.seqK ?_
  refine Tri.run (G := gm_disk_size) tyOk mixed ?_
  conv => whnf
  refine ⟨⟨(f.Safe.length : Int), rfl, ?_⟩⟩
  conv => whnf
  refine ⟨⟨(f.Wait.length : Int), rfl, ?_⟩⟩
  conv => whnf
  refine Tri.run (G := gm_disk_size) tyOk mixed ?_
  conv => whnf
  refine fin_here ?_
  conv => whnf
  obtain rfl := Option.some.inj h
  rfl
noncomputable def disk_Append (d : Disk) (name : Str) (s : Str) : Option (Disk × Int) :=
  (disk_Find d name).bind fun y1 =>
  (
    if d.Off then
      some (.inr (.inl 6))
    else
      (disk_named name).bind fun y1210 =>
      if (!y1210) then
        some (.inr (.inl 1))
      else
        if ((!y1.2) && (decide ((d.Files.length : Int) ≥ 64))) then
          some (.inl ())
        else
          if (decide ((s.length : Int) > d.Room)) then
            some (.inl ())
          else
            (disk_size y1.1).bind fun y1227 =>
            if (decide ((IntKind.i64.wrap (y1227 + (s.length : Int))) > 65536)) then
              some (.inr (.inr (.inl ())))
            else
              some (.inr (.inr (.inr ())))).bind fun (y1124 : (Unit) ⊕ (Int) ⊕ (Unit) ⊕ (Unit)) =>
  match y1124 with
  | (.inl v1126) =>
    some (d, 5)
  | (.inr (.inl v1127)) =>
    some (d, v1127)
  | (.inr (.inr (.inl v1128))) =>
    some (d, 4)
  | (.inr (.inr (.inr v1129))) =>
    (
      if (!y1.2) then
        need (d.Files.length * 48 ≤ 140737488355328) <|
        need ((d.Files.length + 1) * 48 ≤ 140737488355328) <|
        some (d.Files ++ [({ Name := name, Safe := [], Wait := [] } : File)])
      else
        some d.Files).bind fun (y1237 : (List File)) =>
    (
      if ((decide (d.Fuse ≥ 0)) && (decide (d.Fuse < (s.length : Int)))) then
        need (0 ≤ (0 : Int) ∧ 0 ≤ d.Fuse ∧ d.Fuse ≤ (s.length : Int)) <|
        some (cut s 0 d.Fuse)
      else
        some s).bind fun (y1257 : Str) =>
    (disk_at ({ Files := y1237, Room := d.Room, Fuse := d.Fuse, Off := d.Off } : Disk) name).bind fun y1267 =>
    (ix y1237 y1267).bind fun x1269 =>
    need (x1269.Wait.length + y1257.length ≤ 9223372036854775807) <|
    (disk_set_File y1237 y1267 ({ Name := x1269.Name, Safe := x1269.Safe, Wait := (x1269.Wait ++ y1257) } : File)).bind fun y1272 =>
    if (decide ((y1257.length : Int) < (s.length : Int))) then
      some (({ Files := y1272, Room := (IntKind.i64.wrap (d.Room - (y1257.length : Int))), Fuse := (if (decide (d.Fuse ≥ 0)) then (IntKind.i64.wrap (d.Fuse - (y1257.length : Int))) else d.Fuse), Off := true } : Disk), 6)
    else
      some (({ Files := y1272, Room := (IntKind.i64.wrap (d.Room - (y1257.length : Int))), Fuse := (if (decide (d.Fuse ≥ 0)) then (IntKind.i64.wrap (d.Fuse - (y1257.length : Int))) else d.Fuse), Off := d.Off } : Disk), 0)
def gm_disk_Append : Gm := ⟨tys, [], [(63, 69, 3)], []⟩
theorem disk_Append_walk (d : Disk) (name : Str) (s : Str) (r : Disk × Int) (h : disk_Append d name s = some r) : PureP Try.prog 41 [.agg [.sl (List.map encFile d.Files), .v (.int .i64 d.Room), .v (.int .i64 d.Fuse), .v (.bool d.Off)], .v (.string (bs name)), .v (.string (bs s))] (fun a => a = .tup [.agg [.sl (List.map encFile r.1.Files), .v (.int .i64 r.1.Room), .v (.int .i64 r.1.Fuse), .v (.bool r.1.Off)], .v (.int .i64 r.2)]) := by
  unfold disk_Append at h
  refine pureW (G := gm_disk_Append) tyOk Try.func41 rfl (by kernel_rfl) (by simp [Try.f41]) ?_
  refine Tri.seqK ?_
  refine Tri.run (G := gm_disk_Append) tyOk mixed ?_
  conv => whnf
  refine Tri.seqK ?_
  refine Tri.run (G := gm_disk_Append) tyOk mixed ?_
  conv => whnf
  replace h := bind_some h
  obtain ⟨y1, q2, h⟩ := h
  refine PureP.mono (disk_Find_walk d name y1 q2) ?_
  rintro _ rfl
  conv => whnf
  refine Tri.seqK ?_
  refine Tri.block ?_
  refine Tri.seqK ?_
  refine Tri.block ?_
  refine Tri.seqK ?_
  replace h := bind_some h
  obtain ⟨y1124, q1125, h⟩ := h
  refine Tri.cut (fun ex S' => (∃ v1126 : Unit, y1124 = (.inl v1126) ∧ ex = .normal ∧ Weak S' ⟨118, 0, ofRegs [(3, .ptr 0 0), (6, .ptr 1 0)], [.var 31 [.sl (List.map encFile d.Files), .v (.int .i64 d.Room), .v (.int .i64 d.Fuse), .v (.bool d.Off)], .var 31 [.v (.slice none 0 0), .v (.int .i64 0), .v (.int .i64 0), .v (.bool false)]]⟩) ∨ (∃ v1127 : Int, y1124 = (.inr (.inl v1127)) ∧ ex = .ret ∧ Weak S' ⟨118, 0, ofRegs [(6, .ptr 1 0), (7, .v (.int .i64 v1127))], [.gone, .var 31 [.sl (List.map encFile d.Files), .v (.int .i64 d.Room), .v (.int .i64 d.Fuse), .v (.bool d.Off)]]⟩) ∨ (∃ v1128 : Unit, y1124 = (.inr (.inr (.inl v1128))) ∧ ex = (.exit 5) ∧ Weak S' ⟨118, 0, ofRegs [(3, .ptr 0 0), (6, .ptr 1 0)], [.var 31 [.sl (List.map encFile d.Files), .v (.int .i64 d.Room), .v (.int .i64 d.Fuse), .v (.bool d.Off)], .var 31 [.v (.slice none 0 0), .v (.int .i64 0), .v (.int .i64 0), .v (.bool false)]]⟩) ∨ (∃ v1129 : Unit, y1124 = (.inr (.inr (.inr v1129))) ∧ ex = (.exit 0) ∧ Weak S' ⟨118, 0, ofRegs [(1, .v (.string (bs name))), (2, .v (.string (bs s))), (3, .ptr 0 0), (6, .ptr 1 0), (8, .ptr 2 0), (9, .v (.bool y1.2))], [.var 31 [.sl (List.map encFile d.Files), .v (.int .i64 d.Room), .v (.int .i64 d.Fuse), .v (.bool d.Off)], .var 31 [.v (.slice none 0 0), .v (.int .i64 0), .v (.int .i64 0), .v (.bool false)], .var 69 [.v (.string (bs y1.1.Name)), .v (.string (bs y1.1.Safe)), .v (.string (bs y1.1.Wait))]]⟩)) ?_ ?_
  · refine Tri.block ?_
    refine Tri.block ?_
    refine Tri.seqK ?_
    refine Tri.block ?_
    refine Tri.seqK ?_
    refine Tri.block ?_
    refine Tri.seqK ?_
    refine Tri.seqK ?_
    refine Tri.seqK ?_
    refine Tri.run (G := gm_disk_Append) tyOk mixed ?_
    conv => whnf
    refine Tri.cond rfl (fun c1206 => ?_) (fun c1206 => ?_)
    · replace q1125 := if_t c1206 q1125
      refine Tri.run (G := gm_disk_Append) tyOk mixed ?_
      conv => whnf
      refine Tri.seqK ?_
      refine Tri.seqK ?_
      refine Tri.run (G := gm_disk_Append) tyOk mixed ?_
      conv => whnf
      refine Tri.run (G := gm_disk_Append) tyOk mixed ?_
      conv => whnf
      obtain rfl := Option.some.inj q1125
      exact Or.inr (Or.inl ⟨_, rfl, rfl, weak_fin _ rfl rfl rfl (.cons (.gone) (.cons (.same rfl) (LeH.rest))) (.cons (.one (.same rfl)) (.cons (.one (.same rfl)) (.nil))) rfl rfl⟩)
    · replace q1125 := if_f c1206 q1125
      refine Tri.run (G := gm_disk_Append) tyOk mixed ?_
      conv => whnf
      refine Tri.seqK ?_
      refine Tri.seqK ?_
      refine Tri.run (G := gm_disk_Append) tyOk mixed ?_
      conv => whnf
      replace q1125 := bind_some q1125
      obtain ⟨y1210, q1211, q1125⟩ := q1125
      refine PureP.mono (disk_named_walk name y1210 q1211) ?_
      rintro _ rfl
      conv => whnf
      refine Tri.cond rfl (fun c1212 => ?_) (fun c1212 => ?_)
      · replace q1125 := if_t c1212 q1125
        refine Tri.run (G := gm_disk_Append) tyOk mixed ?_
        conv => whnf
        refine Tri.seqK ?_
        refine Tri.seqK ?_
        refine Tri.run (G := gm_disk_Append) tyOk mixed ?_
        conv => whnf
        refine Tri.run (G := gm_disk_Append) tyOk mixed ?_
        conv => whnf
        obtain rfl := Option.some.inj q1125
        exact Or.inr (Or.inl ⟨_, rfl, rfl, weak_fin _ rfl rfl rfl (.cons (.gone) (.cons (.same rfl) (LeH.rest))) (.cons (.one (.same rfl)) (.cons (.one (.same rfl)) (.nil))) rfl rfl⟩)
      · replace q1125 := if_f c1212 q1125
        refine Tri.run (G := gm_disk_Append) tyOk mixed ?_
        conv => whnf
        refine Tri.seqK ?_
        refine Tri.seqK ?_
        refine Tri.cut (fun ex S' => ex = .normal ∧ Weak S' ⟨118, 0, ofRegs [(1, .v (.string (bs name))), (2, .v (.string (bs s))), (3, .ptr 0 0), (6, .ptr 1 0), (8, .ptr 2 0), (9, .v (.bool y1.2)), (25, .v (.bool ((!y1.2) && (decide ((d.Files.length : Int) ≥ 64)))))], [.var 31 [.sl (List.map encFile d.Files), .v (.int .i64 d.Room), .v (.int .i64 d.Fuse), .v (.bool d.Off)], .var 31 [.v (.slice none 0 0), .v (.int .i64 0), .v (.int .i64 0), .v (.bool false)], .var 69 [.v (.string (bs y1.1.Name)), .v (.string (bs y1.1.Safe)), .v (.string (bs y1.1.Wait))]]⟩) ?_ ?_
        · refine Tri.run (G := gm_disk_Append) tyOk mixed ?_
          conv => whnf
          refine cond_mk (fun c1222 => ?_) (fun c1222 => ?_)
          · replace c1222 : (!y1.2) = true := c1222
            conv => whnf
            refine ⟨⟨(d.Files.length : Int), (len_map _ _).symm, ?_⟩⟩
            conv => whnf
            exact ⟨rfl, weak_fin _ rfl rfl rfl (.cons (.same rfl) (.cons (.same rfl) (.cons (.same rfl) (LeH.rest)))) (.cons (.one (.same rfl)) (.cons (.one (.same rfl)) (.cons (.one (.same rfl)) (.cons (.one (.same rfl)) (.cons (.one (.same rfl)) (.cons (.one (.same rfl)) (.cons (.one (.same (show (.v (.bool (decide ((d.Files.length : Int) ≥ 64))) : AV) = (.v (.bool ((!y1.2) && (decide ((d.Files.length : Int) ≥ 64)))) : AV) from by first | (simp [c1222]; done) | simp only [c1222, Bool.or_true, Bool.true_or, Bool.false_or, Bool.or_false, Bool.and_true, Bool.true_and, Bool.and_false, Bool.false_and, Bool.not_true, Bool.not_false, if_true, if_false, Bool.false_eq_true]))) (.nil)))))))) rfl rfl⟩
          · replace c1222 : (!y1.2) = false := c1222
            conv => whnf
            exact ⟨rfl, weak_fin _ rfl rfl rfl (.cons (.same rfl) (.cons (.same rfl) (.cons (.same rfl) (LeH.rest)))) (.cons (.one (.same rfl)) (.cons (.one (.same rfl)) (.cons (.one (.same rfl)) (.cons (.one (.same rfl)) (.cons (.one (.same rfl)) (.cons (.one (.same rfl)) (.cons (.one (.same (show (.v (.bool false) : AV) = (.v (.bool ((!y1.2) && (decide ((d.Files.length : Int) ≥ 64)))) : AV) from by first | (simp [c1222]; done) | simp only [c1222, Bool.or_true, Bool.true_or, Bool.false_or, Bool.or_false, Bool.and_true, Bool.true_and, Bool.and_false, Bool.false_and, Bool.not_true, Bool.not_false, if_true, if_false, Bool.false_eq_true]))) (.nil)))))))) rfl rfl⟩
        · rintro ex S' ⟨rfl, w1223⟩
          conv => whnf
          refine Tri.weak w1223 ?_
          refine Tri.cond rfl (fun c1224 => ?_) (fun c1224 => ?_)
          · replace q1125 := if_t c1224 q1125
            refine Tri.run (G := gm_disk_Append) tyOk mixed ?_
            conv => whnf
            obtain rfl := Option.some.inj q1125
            exact Or.inl ⟨_, rfl, rfl, weak_fin _ rfl rfl rfl (.cons (.same rfl) (.cons (.same rfl) (LeH.rest))) (.cons (.one (.same rfl)) (.cons (.one (.same rfl)) (.nil))) rfl rfl⟩
          · replace q1125 := if_f c1224 q1125
            refine Tri.run (G := gm_disk_Append) tyOk mixed ?_
            conv => whnf
            refine Tri.seqK ?_
            refine Tri.seqK ?_
            refine Tri.run (G := gm_disk_Append) tyOk mixed ?_
            conv => whnf
            refine ⟨⟨(s.length : Int), rfl, ?_⟩⟩
            conv => whnf
            refine Tri.cond rfl (fun c1226 => ?_) (fun c1226 => ?_)
            · replace q1125 := if_t c1226 q1125
              refine Tri.run (G := gm_disk_Append) tyOk mixed ?_
              conv => whnf
              obtain rfl := Option.some.inj q1125
              exact Or.inl ⟨_, rfl, rfl, weak_fin _ rfl rfl rfl (.cons (.same rfl) (.cons (.same rfl) (LeH.rest))) (.cons (.one (.same rfl)) (.cons (.one (.same rfl)) (.nil))) rfl rfl⟩
            · replace q1125 := if_f c1226 q1125
              refine Tri.run (G := gm_disk_Append) tyOk mixed ?_
              conv => whnf
              refine Tri.seqK ?_
              refine Tri.run (G := gm_disk_Append) tyOk mixed ?_
              conv => whnf
              replace q1125 := bind_some q1125
              obtain ⟨y1227, q1228, q1125⟩ := q1125
              refine PureP.mono (disk_size_walk y1.1 y1227 q1228) ?_
              rintro _ rfl
              conv => whnf
              refine ⟨⟨(s.length : Int), rfl, ?_⟩⟩
              conv => whnf
              refine Tri.cond rfl (fun c1229 => ?_) (fun c1229 => ?_)
              · replace q1125 := if_t c1229 q1125
                refine Tri.run (G := gm_disk_Append) tyOk mixed ?_
                conv => whnf
                obtain rfl := Option.some.inj q1125
                exact Or.inr (Or.inr (Or.inl ⟨_, rfl, rfl, weak_fin _ rfl rfl rfl (.cons (.same rfl) (.cons (.same rfl) (LeH.rest))) (.cons (.one (.same rfl)) (.cons (.one (.same rfl)) (.nil))) rfl rfl⟩))
              · replace q1125 := if_f c1229 q1125
                refine Tri.run (G := gm_disk_Append) tyOk mixed ?_
                conv => whnf
                refine Tri.run (G := gm_disk_Append) tyOk mixed ?_
                conv => whnf
                obtain rfl := Option.some.inj q1125
                exact Or.inr (Or.inr (Or.inr (⟨_, rfl, rfl, weak_fin _ rfl rfl rfl (.cons (.same rfl) (.cons (.same rfl) (.cons (.same rfl) (LeH.rest)))) (.cons (.one (.same rfl)) (.cons (.one (.same rfl)) (.cons (.one (.same rfl)) (.cons (.one (.same rfl)) (.cons (.one (.same rfl)) (.cons (.one (.same rfl)) (.nil))))))) rfl rfl⟩)))
  · rintro ex S' (⟨v1126, rfl, rfl, w1230⟩ | ⟨v1127, rfl, rfl, w1230⟩ | ⟨v1128, rfl, rfl, w1230⟩ | ⟨v1129, rfl, rfl, w1230⟩)
    · dsimp only at h
      conv => whnf
      refine Tri.weak w1230 ?_
      refine Tri.seqK ?_
      refine Tri.seqK ?_
      refine Tri.run (G := gm_disk_Append) tyOk mixed ?_
      conv => whnf
      refine Tri.run (G := gm_disk_Append) tyOk mixed ?_
      conv => whnf
      refine fin_here ?_
      conv => whnf
      obtain rfl := Option.some.inj h
      rfl
    · dsimp only at h
      conv => whnf
      refine fin_pre w1230 ?_
      conv => whnf
      obtain rfl := Option.some.inj h
      rfl
    · dsimp only at h
      conv => whnf
      refine Tri.weak w1230 ?_
      refine Tri.seqK ?_
      refine Tri.seqK ?_
      refine Tri.run (G := gm_disk_Append) tyOk mixed ?_
      conv => whnf
      refine Tri.run (G := gm_disk_Append) tyOk mixed ?_
      conv => whnf
      refine fin_here ?_
      conv => whnf
      obtain rfl := Option.some.inj h
      rfl
    · dsimp only at h
      conv => whnf
      refine Tri.weak w1230 ?_
      refine Tri.seqK ?_
      replace h := bind_some h
      obtain ⟨y1237, q1238, h⟩ := h
      refine Tri.cut (fun ex S' => ex = .normal ∧ Weak S' ⟨118, 0, ofRegs [(1, .v (.string (bs name))), (2, .v (.string (bs s))), (3, .ptr 0 0), (6, .ptr 1 0), (8, .ptr 2 0)], [.var 31 [.sl (List.map encFile y1237), .v (.int .i64 d.Room), .v (.int .i64 d.Fuse), .v (.bool d.Off)], .var 31 [.v (.slice none 0 0), .v (.int .i64 0), .v (.int .i64 0), .v (.bool false)], .var 69 [.v (.string (bs y1.1.Name)), .v (.string (bs y1.1.Safe)), .v (.string (bs y1.1.Wait))]]⟩) ?_ ?_
      · refine Tri.seqK ?_
        refine Tri.run (G := gm_disk_Append) tyOk mixed ?_
        conv => whnf
        refine Tri.cond rfl (fun c1239 => ?_) (fun c1239 => ?_)
        · replace q1238 := if_t c1239 q1238
          refine Tri.run (G := gm_disk_Append) tyOk mixed ?_
          conv => whnf
          replace q1238 := need_some q1238
          obtain ⟨p1240, q1238⟩ := q1238
          refine FreshP.mono (clone_63 d.Files p1240) ?_
          rintro _ rfl
          conv => whnf
          refine ⟨⟨List.map encFile [({ Name := name, Safe := [], Wait := [] } : File)], rfl, ?_⟩⟩
          conv => whnf
          refine ⟨rfl, ?_⟩
          conv => whnf
          refine ⟨rfl, ?_⟩
          conv => whnf
          replace q1238 := need_some q1238
          obtain ⟨p1241, q1238⟩ := q1238
          refine ⟨by simp only [List.length_map]; exact p1241, ?_⟩
          conv => whnf
          refine ⟨⟨List.map encFile (d.Files ++ [({ Name := name, Safe := [], Wait := [] } : File)]), map_app encFile _ _ rfl rfl, ?_⟩⟩
          conv => whnf
          obtain rfl := Option.some.inj q1238
          exact ⟨rfl, Weak.trans (weak_freeze 3 rfl) (weak_fin _ rfl rfl rfl (.cons (.var (.cons (.frz rfl rfl) (.cons (.same rfl) (.cons (.same rfl) (.cons (.same rfl) (.nil)))))) (.cons (.same rfl) (.cons (.same rfl) (LeH.rest)))) (.cons (.one (.same rfl)) (.cons (.one (.same rfl)) (.cons (.one (.same rfl)) (.cons (.one (.same rfl)) (.cons (.one (.same rfl)) (.nil)))))) rfl rfl)⟩
        · replace q1238 := if_f c1239 q1238
          refine Tri.run (G := gm_disk_Append) tyOk mixed ?_
          conv => whnf
          obtain rfl := Option.some.inj q1238
          exact ⟨rfl, weak_fin _ rfl rfl rfl (.cons (.same rfl) (.cons (.same rfl) (.cons (.same rfl) (LeH.rest)))) (.cons (.one (.same rfl)) (.cons (.one (.same rfl)) (.cons (.one (.same rfl)) (.cons (.one (.same rfl)) (.cons (.one (.same rfl)) (.nil)))))) rfl rfl⟩
      · rintro ex S' ⟨rfl, w1242⟩
        conv => whnf
        refine Tri.weak w1242 ?_
        refine Tri.seqK ?_
        refine Tri.run (G := gm_disk_Append) tyOk mixed ?_
        conv => whnf
        refine Tri.seqK ?_
        replace h := bind_some h
        obtain ⟨y1257, q1258, h⟩ := h
        refine Tri.cut (fun ex S' => ex = .normal ∧ Weak S' ⟨118, 0, ofRegs [(1, .v (.string (bs name))), (2, .v (.string (bs s))), (3, .ptr 0 0), (6, .ptr 1 0), (8, .ptr 2 0), (10, .v (.string (bs y1257)))], [.var 31 [.sl (List.map encFile y1237), .v (.int .i64 d.Room), .v (.int .i64 d.Fuse), .v (.bool d.Off)], .var 31 [.v (.slice none 0 0), .v (.int .i64 0), .v (.int .i64 0), .v (.bool false)], .var 69 [.v (.string (bs y1.1.Name)), .v (.string (bs y1.1.Safe)), .v (.string (bs y1.1.Wait))]]⟩) ?_ ?_
        · refine Tri.seqK ?_
          refine Tri.cut (fun ex S' => ex = .normal ∧ Weak S' ⟨118, 0, ofRegs [(1, .v (.string (bs name))), (2, .v (.string (bs s))), (3, .ptr 0 0), (6, .ptr 1 0), (8, .ptr 2 0), (10, .v (.string (bs s))), (71, .v (.bool ((decide (d.Fuse ≥ 0)) && (decide (d.Fuse < (s.length : Int))))))], [.var 31 [.sl (List.map encFile y1237), .v (.int .i64 d.Room), .v (.int .i64 d.Fuse), .v (.bool d.Off)], .var 31 [.v (.slice none 0 0), .v (.int .i64 0), .v (.int .i64 0), .v (.bool false)], .var 69 [.v (.string (bs y1.1.Name)), .v (.string (bs y1.1.Safe)), .v (.string (bs y1.1.Wait))]]⟩) ?_ ?_
          · refine Tri.run (G := gm_disk_Append) tyOk mixed ?_
            conv => whnf
            refine cond_mk (fun c1262 => ?_) (fun c1262 => ?_)
            · replace c1262 : (decide (d.Fuse ≥ 0)) = true := c1262
              conv => whnf
              refine ⟨⟨(s.length : Int), rfl, ?_⟩⟩
              conv => whnf
              exact ⟨rfl, weak_fin _ rfl rfl rfl (.cons (.same rfl) (.cons (.same rfl) (.cons (.same rfl) (LeH.rest)))) (.cons (.one (.same rfl)) (.cons (.one (.same rfl)) (.cons (.one (.same rfl)) (.cons (.one (.same rfl)) (.cons (.one (.same rfl)) (.cons (.one (.same rfl)) (.cons (.one (.same (show (.v (.bool (decide (d.Fuse < (s.length : Int)))) : AV) = (.v (.bool ((decide (d.Fuse ≥ 0)) && (decide (d.Fuse < (s.length : Int))))) : AV) from by first | (simp [c1262]; done) | simp only [c1262, Bool.or_true, Bool.true_or, Bool.false_or, Bool.or_false, Bool.and_true, Bool.true_and, Bool.and_false, Bool.false_and, Bool.not_true, Bool.not_false, if_true, if_false, Bool.false_eq_true]))) (.nil)))))))) rfl rfl⟩
            · replace c1262 : (decide (d.Fuse ≥ 0)) = false := c1262
              conv => whnf
              exact ⟨rfl, weak_fin _ rfl rfl rfl (.cons (.same rfl) (.cons (.same rfl) (.cons (.same rfl) (LeH.rest)))) (.cons (.one (.same rfl)) (.cons (.one (.same rfl)) (.cons (.one (.same rfl)) (.cons (.one (.same rfl)) (.cons (.one (.same rfl)) (.cons (.one (.same rfl)) (.cons (.one (.same (show (.v (.bool false) : AV) = (.v (.bool ((decide (d.Fuse ≥ 0)) && (decide (d.Fuse < (s.length : Int))))) : AV) from by first | (simp [c1262]; done) | simp only [c1262, Bool.or_true, Bool.true_or, Bool.false_or, Bool.or_false, Bool.and_true, Bool.true_and, Bool.and_false, Bool.false_and, Bool.not_true, Bool.not_false, if_true, if_false, Bool.false_eq_true]))) (.nil)))))))) rfl rfl⟩
          · rintro ex S' ⟨rfl, w1263⟩
            conv => whnf
            refine Tri.weak w1263 ?_
            refine Tri.cond rfl (fun c1264 => ?_) (fun c1264 => ?_)
            · replace q1258 := if_t c1264 q1258
              refine Tri.run (G := gm_disk_Append) tyOk mixed ?_
              conv => whnf
              replace q1258 := need_some q1258
              obtain ⟨p1265, q1258⟩ := q1258
              refine ⟨p1265, ?_⟩
              conv => whnf
              refine ⟨⟨bs (cut s 0 d.Fuse), bs_cut _ _ _, ?_⟩⟩
              conv => whnf
              obtain rfl := Option.some.inj q1258
              exact ⟨rfl, weak_fin _ rfl rfl rfl (.cons (.same rfl) (.cons (.same rfl) (.cons (.same rfl) (LeH.rest)))) (.cons (.one (.same rfl)) (.cons (.one (.same rfl)) (.cons (.one (.same rfl)) (.cons (.one (.same rfl)) (.cons (.one (.same rfl)) (.cons (.one (.same rfl)) (.nil))))))) rfl rfl⟩
            · replace q1258 := if_f c1264 q1258
              refine Tri.run (G := gm_disk_Append) tyOk mixed ?_
              conv => whnf
              obtain rfl := Option.some.inj q1258
              exact ⟨rfl, weak_fin _ rfl rfl rfl (.cons (.same rfl) (.cons (.same rfl) (.cons (.same rfl) (LeH.rest)))) (.cons (.one (.same rfl)) (.cons (.one (.same rfl)) (.cons (.one (.same rfl)) (.cons (.one (.same rfl)) (.cons (.one (.same rfl)) (.cons (.one (.same rfl)) (.nil))))))) rfl rfl⟩
        · rintro ex S' ⟨rfl, w1266⟩
          conv => whnf
          refine Tri.weak w1266 ?_
          refine Tri.seqK ?_
          refine Tri.run (G := gm_disk_Append) tyOk mixed ?_
          conv => whnf
          replace h := bind_some h
          obtain ⟨y1267, q1268, h⟩ := h
          refine PureP.mono (disk_at_walk ({ Files := y1237, Room := d.Room, Fuse := d.Fuse, Off := d.Off } : Disk) name y1267 q1268) ?_
          rintro _ rfl
          conv => whnf
          refine Tri.seqK ?_
          refine Tri.run (G := gm_disk_Append) tyOk mixed ?_
          conv => whnf
          replace h := bind_some h
          obtain ⟨x1269, q1270, h⟩ := h
          refine ⟨(ix_some q1270).1, ?_⟩
          conv => whnf
          refine ⟨⟨_, map_get encFile (ix_some q1270).2, ?_⟩⟩
          conv => whnf
          refine ⟨rfl, ?_⟩
          conv => whnf
          refine Tri.seqK ?_
          refine Tri.run (G := gm_disk_Append) tyOk mixed ?_
          conv => whnf
          replace h := need_some h
          obtain ⟨p1271, h⟩ := h
          refine ⟨p1271, ?_⟩
          conv => whnf
          refine ⟨⟨bs (x1269.Wait ++ y1257), bs_append _ _, ?_⟩⟩
          conv => whnf
          refine Tri.seqK ?_
          refine Tri.run (G := gm_disk_Append) tyOk mixed ?_
          conv => whnf
          replace h := bind_some h
          obtain ⟨y1272, q1273, h⟩ := h
          refine PureP.mono (disk_set_File_walk y1237 y1267 ({ Name := x1269.Name, Safe := x1269.Safe, Wait := (x1269.Wait ++ y1257) } : File) y1272 q1273) ?_
          rintro _ rfl
          conv => whnf
          refine Tri.seqK ?_
          refine Tri.run (G := gm_disk_Append) tyOk mixed ?_
          conv => whnf
          refine ⟨⟨(y1257.length : Int), rfl, ?_⟩⟩
          conv => whnf
          refine Tri.seqK ?_
          refine Tri.cut (fun ex S' => ex = .normal ∧ Weak S' ⟨118, 0, ofRegs [(2, .v (.string (bs s))), (3, .ptr 0 0), (6, .ptr 1 0), (10, .v (.string (bs y1257)))], [.var 31 [.sl (List.map encFile y1272), .v (.int .i64 (IntKind.i64.wrap (d.Room - (y1257.length : Int)))), .v (.int .i64 (if (decide (d.Fuse ≥ 0)) then (IntKind.i64.wrap (d.Fuse - (y1257.length : Int))) else d.Fuse)), .v (.bool d.Off)], .var 31 [.v (.slice none 0 0), .v (.int .i64 0), .v (.int .i64 0), .v (.bool false)]]⟩) ?_ ?_
          · refine Tri.seqK ?_
            refine Tri.run (G := gm_disk_Append) tyOk mixed ?_
            conv => whnf
            refine Tri.cond rfl (fun c1277 => ?_) (fun c1277 => ?_)
            · replace c1277 : (decide (d.Fuse ≥ 0)) = true := c1277
              refine Tri.run (G := gm_disk_Append) tyOk mixed ?_
              conv => whnf
              refine ⟨⟨(y1257.length : Int), rfl, ?_⟩⟩
              conv => whnf
              exact ⟨rfl, weak_fin _ rfl rfl rfl (.cons (.var (.cons (.same rfl) (.cons (.same rfl) (.cons (.same (show (.v (.int .i64 (IntKind.i64.wrap (d.Fuse - (y1257.length : Int)))) : AV) = (.v (.int .i64 (if (decide (d.Fuse ≥ 0)) then (IntKind.i64.wrap (d.Fuse - (y1257.length : Int))) else d.Fuse)) : AV) from by first | (simp [c1277]; done) | simp only [c1277, Bool.or_true, Bool.true_or, Bool.false_or, Bool.or_false, Bool.and_true, Bool.true_and, Bool.and_false, Bool.false_and, Bool.not_true, Bool.not_false, if_true, if_false, Bool.false_eq_true])) (.cons (.same rfl) (.nil)))))) (.cons (.same rfl) (LeH.rest))) (.cons (.one (.same rfl)) (.cons (.one (.same rfl)) (.cons (.one (.same rfl)) (.cons (.one (.same rfl)) (.nil))))) rfl rfl⟩
            · replace c1277 : (decide (d.Fuse ≥ 0)) = false := c1277
              refine Tri.run (G := gm_disk_Append) tyOk mixed ?_
              conv => whnf
              exact ⟨rfl, weak_fin _ rfl rfl rfl (.cons (.var (.cons (.same rfl) (.cons (.same rfl) (.cons (.same (show (.v (.int .i64 d.Fuse) : AV) = (.v (.int .i64 (if (decide (d.Fuse ≥ 0)) then (IntKind.i64.wrap (d.Fuse - (y1257.length : Int))) else d.Fuse)) : AV) from by first | (simp [c1277]; done) | simp only [c1277, Bool.or_true, Bool.true_or, Bool.false_or, Bool.or_false, Bool.and_true, Bool.true_and, Bool.and_false, Bool.false_and, Bool.not_true, Bool.not_false, if_true, if_false, Bool.false_eq_true])) (.cons (.same rfl) (.nil)))))) (.cons (.same rfl) (LeH.rest))) (.cons (.one (.same rfl)) (.cons (.one (.same rfl)) (.cons (.one (.same rfl)) (.cons (.one (.same rfl)) (.nil))))) rfl rfl⟩
          · rintro ex S' ⟨rfl, w1278⟩
            conv => whnf
            refine Tri.weak w1278 ?_
            refine Tri.seqK ?_
            refine Tri.seqK ?_
            refine Tri.run (G := gm_disk_Append) tyOk mixed ?_
            conv => whnf
            refine ⟨⟨(y1257.length : Int), rfl, ?_⟩⟩
            conv => whnf
            refine ⟨⟨(s.length : Int), rfl, ?_⟩⟩
            conv => whnf
            refine Tri.cond rfl (fun c1280 => ?_) (fun c1280 => ?_)
            · replace h := if_t c1280 h
              refine Tri.seqK ?_
              refine Tri.run (G := gm_disk_Append) tyOk mixed ?_
              conv => whnf
              refine Tri.seqK ?_
              refine Tri.run (G := gm_disk_Append) tyOk mixed ?_
              conv => whnf
              refine Tri.run (G := gm_disk_Append) tyOk mixed ?_
              conv => whnf
              refine fin_here ?_
              conv => whnf
              obtain rfl := Option.some.inj h
              rfl
            · replace h := if_f c1280 h
              refine Tri.run (G := gm_disk_Append) tyOk mixed ?_
              conv => whnf
              refine Tri.seqK ?_
              refine Tri.run (G := gm_disk_Append) tyOk mixed ?_
              conv => whnf
              refine Tri.run (G := gm_disk_Append) tyOk mixed ?_
              conv => whnf
              refine fin_here ?_
              conv => whnf
              obtain rfl := Option.some.inj h
              rfl
noncomputable def wal_Put (d : Disk) (seg : Int) (rec : Str) : Option (Disk × Int × Int) :=
  (wal_may seg).bind fun y5 =>
  if (!y5) then
    some (d, seg, 1)
  else
    if (decide ((rec.length : Int) > 2048)) then
      some (d, seg, 4)
    else
      (
        (wal_Name seg).bind fun y737 =>
        (disk_Read d y737).bind fun y739 =>
        if (decide ((y739.1.length : Int) ≥ 256)) then
          (wal_Name seg).bind fun y752 =>
          (disk_Sync d y752).bind fun y754 =>
          (
            (
              if (decide (y754.2 = 0)) then
                (wal_may (IntKind.i64.wrap (seg + 1))).bind fun y1087 =>
                some y1087
              else
                some false).bind fun (y1084 : Bool) =>
            if y1084 then
              some (.inr ())
            else
              if (decide (y754.2 = 0)) then
                some (.inl 5)
              else
                some (.inl y754.2)).bind fun (y980 : (Int) ⊕ (Unit)) =>
          match y980 with
          | (.inl v982) =>
            some (.inr (v982, y754.1.Files, y754.1.Room, y754.1.Fuse, y754.1.Off))
          | (.inr v983) =>
            some (.inl ((IntKind.i64.wrap (seg + 1)), y754.1.Files, y754.1.Room, y754.1.Fuse, y754.1.Off))
        else
          some (.inl (seg, d.Files, d.Room, d.Fuse, d.Off))).bind fun (y729 : (Int × (List File) × Int × Int × Bool) ⊕ (Int × (List File) × Int × Int × Bool)) =>
      match y729 with
      | (.inl v731) =>
        (wal_Name v731.1).bind fun y1110 =>
        (sum_Seal rec).bind fun y1112 =>
        (disk_Append ({ Files := v731.2.1, Room := v731.2.2.1, Fuse := v731.2.2.2.1, Off := v731.2.2.2.2 } : Disk) y1110 y1112).bind fun y1114 =>
        some (y1114.1, v731.1, y1114.2)
      | (.inr v732) =>
        some (({ Files := v732.2.1, Room := v732.2.2.1, Fuse := v732.2.2.2.1, Off := v732.2.2.2.2 } : Disk), seg, v732.1)
def gm_wal_Put : Gm := ⟨tys, [], [], []⟩
theorem wal_Put_walk (d : Disk) (seg : Int) (rec : Str) (r : Disk × Int × Int) (h : wal_Put d seg rec = some r) : PureP Try.prog 17 [.agg [.sl (List.map encFile d.Files), .v (.int .i64 d.Room), .v (.int .i64 d.Fuse), .v (.bool d.Off)], .v (.int .i64 seg), .v (.string (bs rec))] (fun a => a = .tup [.agg [.sl (List.map encFile r.1.Files), .v (.int .i64 r.1.Room), .v (.int .i64 r.1.Fuse), .v (.bool r.1.Off)], .v (.int .i64 r.2.1), .v (.int .i64 r.2.2)]) := by
  unfold wal_Put at h
  refine pureW (G := gm_wal_Put) tyOk Try.func17 rfl (by kernel_rfl) (by simp [Try.f17]) ?_
  refine Tri.seqK ?_
  refine Tri.run (G := gm_wal_Put) tyOk mixed ?_
  conv => whnf
  refine Tri.seqK ?_
  refine Tri.block ?_
  refine Tri.seqK ?_
  refine Tri.run (G := gm_wal_Put) tyOk mixed ?_
  conv => whnf
  replace h := bind_some h
  obtain ⟨y5, q6, h⟩ := h
  refine PureP.mono (wal_may_walk seg y5 q6) ?_
  rintro _ rfl
  conv => whnf
  refine Tri.cond rfl (fun c7 => ?_) (fun c7 => ?_)
  · replace h := if_t c7 h
    refine Tri.seqK ?_
    refine Tri.run (G := gm_wal_Put) tyOk mixed ?_
    conv => whnf
    refine Tri.run (G := gm_wal_Put) tyOk mixed ?_
    conv => whnf
    refine fin_here ?_
    conv => whnf
    obtain rfl := Option.some.inj h
    rfl
  · replace h := if_f c7 h
    refine Tri.seqK ?_
    refine Tri.run (G := gm_wal_Put) tyOk mixed ?_
    conv => whnf
    refine ⟨⟨(rec.length : Int), rfl, ?_⟩⟩
    conv => whnf
    refine Tri.cond rfl (fun c8 => ?_) (fun c8 => ?_)
    · replace h := if_t c8 h
      refine Tri.seqK ?_
      refine Tri.run (G := gm_wal_Put) tyOk mixed ?_
      conv => whnf
      refine Tri.run (G := gm_wal_Put) tyOk mixed ?_
      conv => whnf
      refine fin_here ?_
      conv => whnf
      obtain rfl := Option.some.inj h
      rfl
    · replace h := if_f c8 h
      refine Tri.run (G := gm_wal_Put) tyOk mixed ?_
      conv => whnf
      refine Tri.seqK ?_
      replace h := bind_some h
      obtain ⟨y729, q730, h⟩ := h
      refine Tri.cut (fun ex S' => (∃ v731 : Int × (List File) × Int × Int × Bool, y729 = (.inl v731) ∧ ex = .normal ∧ Weak S' ⟨72, 0, ofRegs [(1, .v (.int .i64 v731.1)), (2, .v (.string (bs rec))), (3, .ptr 0 0), (6, .ptr 1 0)], [.var 31 [.sl (List.map encFile v731.2.1), .v (.int .i64 v731.2.2.1), .v (.int .i64 v731.2.2.2.1), .v (.bool v731.2.2.2.2)], .var 31 [.v (.slice none 0 0), .v (.int .i64 0), .v (.int .i64 0), .v (.bool false)]]⟩) ∨ (∃ v732 : Int × (List File) × Int × Int × Bool, y729 = (.inr v732) ∧ ex = .ret ∧ Weak S' ⟨72, 0, ofRegs [(6, .ptr 1 0), (7, .v (.int .i64 seg)), (8, .v (.int .i64 v732.1))], [.gone, .var 31 [.sl (List.map encFile v732.2.1), .v (.int .i64 v732.2.2.1), .v (.int .i64 v732.2.2.2.1), .v (.bool v732.2.2.2.2)]]⟩)) ?_ ?_
      · refine Tri.seqK ?_
        refine Tri.run (G := gm_wal_Put) tyOk mixed ?_
        conv => whnf
        refine Draw.one 9 (.take 0 (.take 1 (.alt 2 (.alt 3 (.take 4 (.take 5 (.take 6 (.take 7 (.take 8 (.fin)))))) (.nil)) (.nil)))) [] (by kernel_rfl) ?_
        conv => whnf
        refine ⟨?_, ?_⟩
        · conv => whnf
          replace q730 := bind_some q730
          obtain ⟨y737, q738, q730⟩ := q730
          refine PureP.mono (wal_Name_walk seg y737 q738) ?_
          rintro _ rfl
          conv => whnf
          refine ⟨?_, ?_⟩
          · conv => whnf
            replace q730 := bind_some q730
            obtain ⟨y739, q740, q730⟩ := q730
            refine PureP.mono (disk_Read_walk d y737 y739 q740) ?_
            rintro _ rfl
            conv => whnf
            refine Tri.seqK ?_
            refine Tri.run (G := gm_wal_Put) tyOk mixed ?_
            conv => whnf
            refine ⟨⟨(y739.1.length : Int), rfl, ?_⟩⟩
            conv => whnf
            refine Tri.cond rfl (fun c741 => ?_) (fun c741 => ?_)
            · replace q730 := if_t c741 q730
              refine Tri.seqK ?_
              refine Tri.run (G := gm_wal_Put) tyOk mixed ?_
              conv => whnf
              replace q730 := bind_some q730
              obtain ⟨y752, q762, q730⟩ := q730
              replace q730 := bind_some q730
              obtain ⟨y754, q763, q730⟩ := q730
              refine Draw.many 9 (.take 0 (.take 1 (.alt 2 (.alt 3 (.take 4 (.take 5 (.take 6 (.alt 7 (.alt 8 (.fin) (.nil)) (.nil))))) (.alt 7 (.alt 3 (.take 4 (.take 5 (.take 6 (.alt 8 (.fin) (.nil))))) (.nil)) (.nil))) (.alt 7 (.alt 2 (.alt 3 (.take 4 (.take 5 (.take 6 (.alt 8 (.fin) (.nil))))) (.nil)) (.nil)) (.nil))))) [2, 3, 4, 5, 6, 7] (⟨72, 0, ofRegs [(1, .v (.int .i64 seg)), (2, .v (.string (bs rec))), (3, .ptr 0 0), (6, .ptr 1 0), (11, .ptr 2 0), (42, .v (.int .i64 y754.2))], [.var 31 [.sl (List.map encFile d.Files), .v (.int .i64 d.Room), .v (.int .i64 d.Fuse), .v (.bool d.Off)], .var 31 [.v (.slice none 0 0), .v (.int .i64 0), .v (.int .i64 0), .v (.bool false)], .var 31 [.sl (List.map encFile y754.1.Files), .v (.int .i64 y754.1.Room), .v (.int .i64 y754.1.Fuse), .v (.bool y754.1.Off)]]⟩) (by kernel_rfl) ?_ ?_
              · conv => whnf
                refine ⟨?_, ?_⟩
                · conv => whnf
                  refine PureP.mono (wal_Name_walk seg y752 q762) ?_
                  rintro _ rfl
                  conv => whnf
                  refine ⟨?_, ?_⟩
                  · conv => whnf
                    refine PureP.mono (disk_Sync_walk d y752 y754 q763) ?_
                    rintro _ rfl
                    conv => whnf
                    refine ⟨?_, ?_⟩
                    · conv => whnf
                      refine ⟨?_, ?_⟩
                      · conv => whnf
                        exact weak_fin _ rfl rfl rfl (.cons (.same rfl) (.cons (.same rfl) (.cons (.same rfl) (LeH.rest)))) (.cons (.one (.same rfl)) (.cons (.one (.same rfl)) (.cons (.one (.same rfl)) (.cons (.one (.same rfl)) (.cons (.one (.same rfl)) (.cons (.one (.same rfl)) (.nil))))))) rfl rfl
                      · conv => whnf
                        trivial
                    · conv => whnf
                      trivial
                  · conv => whnf
                    refine ⟨?_, ?_⟩
                    · conv => whnf
                      refine ⟨?_, ?_⟩
                      · conv => whnf
                        refine PureP.mono (disk_Sync_walk d y752 y754 q763) ?_
                        rintro _ rfl
                        conv => whnf
                        refine ⟨?_, ?_⟩
                        · conv => whnf
                          exact weak_fin _ rfl rfl rfl (.cons (.same rfl) (.cons (.same rfl) (.cons (.same rfl) (LeH.rest)))) (.cons (.one (.same rfl)) (.cons (.one (.same rfl)) (.cons (.one (.same rfl)) (.cons (.one (.same rfl)) (.cons (.one (.same rfl)) (.cons (.one (.same rfl)) (.nil))))))) rfl rfl
                        · conv => whnf
                          trivial
                      · conv => whnf
                        trivial
                    · conv => whnf
                      trivial
                · conv => whnf
                  refine ⟨?_, ?_⟩
                  · conv => whnf
                    refine ⟨?_, ?_⟩
                    · conv => whnf
                      refine PureP.mono (wal_Name_walk seg y752 q762) ?_
                      rintro _ rfl
                      conv => whnf
                      refine ⟨?_, ?_⟩
                      · conv => whnf
                        refine PureP.mono (disk_Sync_walk d y752 y754 q763) ?_
                        rintro _ rfl
                        conv => whnf
                        refine ⟨?_, ?_⟩
                        · conv => whnf
                          exact weak_fin _ rfl rfl rfl (.cons (.same rfl) (.cons (.same rfl) (.cons (.same rfl) (LeH.rest)))) (.cons (.one (.same rfl)) (.cons (.one (.same rfl)) (.cons (.one (.same rfl)) (.cons (.one (.same rfl)) (.cons (.one (.same rfl)) (.cons (.one (.same rfl)) (.nil))))))) rfl rfl
                        · conv => whnf
                          trivial
                      · conv => whnf
                        trivial
                    · conv => whnf
                      trivial
                  · conv => whnf
                    trivial
              · conv => whnf
                refine Tri.block ?_
                refine Tri.seqK ?_
                replace q730 := bind_some q730
                obtain ⟨y980, q981, q730⟩ := q730
                refine Tri.cut (fun ex S' => (∃ v982 : Int, y980 = (.inl v982) ∧ ex = .normal ∧ Weak S' ⟨72, 0, ofRegs [(1, .v (.int .i64 seg)), (6, .ptr 1 0), (11, .ptr 2 0), (12, .v (.int .i64 v982))], [.gone, .var 31 [.v (.slice none 0 0), .v (.int .i64 0), .v (.int .i64 0), .v (.bool false)], .var 31 [.sl (List.map encFile y754.1.Files), .v (.int .i64 y754.1.Room), .v (.int .i64 y754.1.Fuse), .v (.bool y754.1.Off)]]⟩) ∨ (∃ v983 : Unit, y980 = (.inr v983) ∧ ex = (.exit 1) ∧ Weak S' ⟨72, 0, ofRegs [(1, .v (.int .i64 (IntKind.i64.wrap (seg + 1)))), (2, .v (.string (bs rec))), (3, .ptr 0 0), (6, .ptr 1 0)], [.var 31 [.sl (List.map encFile y754.1.Files), .v (.int .i64 y754.1.Room), .v (.int .i64 y754.1.Fuse), .v (.bool y754.1.Off)], .var 31 [.v (.slice none 0 0), .v (.int .i64 0), .v (.int .i64 0), .v (.bool false)]]⟩)) ?_ ?_
                · refine Tri.block ?_
                  refine Tri.seqK ?_
                  refine Tri.block ?_
                  refine Tri.seqK ?_
                  refine Tri.block ?_
                  refine Tri.seqK ?_
                  refine Tri.seqK ?_
                  refine Tri.seqK ?_
                  replace q981 := bind_some q981
                  obtain ⟨y1084, q1085, q981⟩ := q981
                  refine Tri.cut (fun ex S' => ex = .normal ∧ Weak S' ⟨72, 0, ofRegs [(1, .v (.int .i64 seg)), (2, .v (.string (bs rec))), (3, .ptr 0 0), (6, .ptr 1 0), (11, .ptr 2 0), (12, .v (.int .i64 y754.2)), (43, .v (.bool y1084))], [.var 31 [.sl (List.map encFile d.Files), .v (.int .i64 d.Room), .v (.int .i64 d.Fuse), .v (.bool d.Off)], .var 31 [.v (.slice none 0 0), .v (.int .i64 0), .v (.int .i64 0), .v (.bool false)], .var 31 [.sl (List.map encFile y754.1.Files), .v (.int .i64 y754.1.Room), .v (.int .i64 y754.1.Fuse), .v (.bool y754.1.Off)]]⟩) ?_ ?_
                  · refine Tri.run (G := gm_wal_Put) tyOk mixed ?_
                    conv => whnf
                    refine cond_mk (fun c1086 => ?_) (fun c1086 => ?_)
                    · replace q1085 := if_t c1086 q1085
                      conv => whnf
                      replace q1085 := bind_some q1085
                      obtain ⟨y1087, q1088, q1085⟩ := q1085
                      refine PureP.mono (wal_may_walk (IntKind.i64.wrap (seg + 1)) y1087 q1088) ?_
                      rintro _ rfl
                      conv => whnf
                      obtain rfl := Option.some.inj q1085
                      exact ⟨rfl, weak_fin _ rfl rfl rfl (.cons (.same rfl) (.cons (.same rfl) (.cons (.same rfl) (LeH.rest)))) (.cons (.one (.same rfl)) (.cons (.one (.same rfl)) (.cons (.one (.same rfl)) (.cons (.one (.same rfl)) (.cons (.one (.same rfl)) (.cons (.one (.same rfl)) (.cons (.one (.same rfl)) (.nil)))))))) rfl rfl⟩
                    · replace q1085 := if_f c1086 q1085
                      conv => whnf
                      obtain rfl := Option.some.inj q1085
                      exact ⟨rfl, weak_fin _ rfl rfl rfl (.cons (.same rfl) (.cons (.same rfl) (.cons (.same rfl) (LeH.rest)))) (.cons (.one (.same rfl)) (.cons (.one (.same rfl)) (.cons (.one (.same rfl)) (.cons (.one (.same rfl)) (.cons (.one (.same rfl)) (.cons (.one (.same rfl)) (.cons (.one (.same rfl)) (.nil)))))))) rfl rfl⟩
                  · rintro ex S' ⟨rfl, w1089⟩
                    conv => whnf
                    refine Tri.weak w1089 ?_
                    refine Tri.cond rfl (fun c1090 => ?_) (fun c1090 => ?_)
                    · replace q981 := if_t c1090 q981
                      refine Tri.run (G := gm_wal_Put) tyOk mixed ?_
                      conv => whnf
                      refine Tri.seqK ?_
                      refine Tri.run (G := gm_wal_Put) tyOk mixed ?_
                      conv => whnf
                      refine Tri.run (G := gm_wal_Put) tyOk mixed ?_
                      conv => whnf
                      obtain rfl := Option.some.inj q981
                      exact Or.inr (⟨_, rfl, rfl, weak_fin _ rfl rfl rfl (.cons (.same rfl) (.cons (.same rfl) (LeH.rest))) (.cons (.one (.same rfl)) (.cons (.one (.same rfl)) (.cons (.one (.same rfl)) (.cons (.one (.same rfl)) (.nil))))) rfl rfl⟩)
                    · replace q981 := if_f c1090 q981
                      refine Tri.run (G := gm_wal_Put) tyOk mixed ?_
                      conv => whnf
                      refine Tri.seqK ?_
                      refine Tri.run (G := gm_wal_Put) tyOk mixed ?_
                      conv => whnf
                      refine Tri.cond rfl (fun c1091 => ?_) (fun c1091 => ?_)
                      · replace q981 := if_t c1091 q981
                        refine Tri.run (G := gm_wal_Put) tyOk mixed ?_
                        conv => whnf
                        refine Tri.run (G := gm_wal_Put) tyOk mixed ?_
                        conv => whnf
                        obtain rfl := Option.some.inj q981
                        exact Or.inl ⟨_, rfl, rfl, weak_fin _ rfl rfl rfl (.cons (.gone) (.cons (.same rfl) (.cons (.same rfl) (LeH.rest)))) (.cons (.one (.same rfl)) (.cons (.one (.same rfl)) (.cons (.one (.same rfl)) (.cons (.one (.same rfl)) (.nil))))) rfl rfl⟩
                      · replace q981 := if_f c1091 q981
                        refine Tri.run (G := gm_wal_Put) tyOk mixed ?_
                        conv => whnf
                        refine Tri.run (G := gm_wal_Put) tyOk mixed ?_
                        conv => whnf
                        obtain rfl := Option.some.inj q981
                        exact Or.inl ⟨_, rfl, rfl, weak_fin _ rfl rfl rfl (.cons (.gone) (.cons (.same rfl) (.cons (.same rfl) (LeH.rest)))) (.cons (.one (.same rfl)) (.cons (.one (.same rfl)) (.cons (.one (.same rfl)) (.cons (.one (.same rfl)) (.nil))))) rfl rfl⟩
                · rintro ex S' (⟨v982, rfl, rfl, w1092⟩ | ⟨v983, rfl, rfl, w1092⟩)
                  · dsimp only at q730
                    conv => whnf
                    refine Tri.weak w1092 ?_
                    refine Tri.seqK ?_
                    refine Tri.seqK ?_
                    refine Tri.run (G := gm_wal_Put) tyOk mixed ?_
                    conv => whnf
                    refine Tri.run (G := gm_wal_Put) tyOk mixed ?_
                    conv => whnf
                    obtain rfl := Option.some.inj q730
                    exact Or.inr (⟨_, rfl, rfl, weak_fin _ rfl rfl rfl (.cons (.same rfl) (.cons (.same rfl) (LeH.rest))) (.cons (.one (.same rfl)) (.cons (.one (.same rfl)) (.cons (.one (.same rfl)) (.nil)))) rfl rfl⟩)
                  · dsimp only at q730
                    conv => whnf
                    obtain rfl := Option.some.inj q730
                    exact Or.inl ⟨_, rfl, rfl, Weak.trans w1092 (weak_fin _ rfl rfl rfl (.cons (.same rfl) (.cons (.same rfl) (LeH.rest))) (.cons (.one (.same rfl)) (.cons (.one (.same rfl)) (.cons (.one (.same rfl)) (.cons (.one (.same rfl)) (.nil))))) rfl rfl)⟩
            · replace q730 := if_f c741 q730
              refine Tri.run (G := gm_wal_Put) tyOk mixed ?_
              conv => whnf
              obtain rfl := Option.some.inj q730
              exact Or.inl ⟨_, rfl, rfl, weak_fin _ rfl rfl rfl (.cons (.same rfl) (.cons (.same rfl) (LeH.rest))) (.cons (.one (.same rfl)) (.cons (.one (.same rfl)) (.cons (.one (.same rfl)) (.cons (.one (.same rfl)) (.nil))))) rfl rfl⟩
          · conv => whnf
            trivial
        · conv => whnf
          trivial
      · rintro ex S' (⟨v731, rfl, rfl, w1093⟩ | ⟨v732, rfl, rfl, w1093⟩)
        · dsimp only at h
          conv => whnf
          refine Tri.weak w1093 ?_
          refine Tri.seqK ?_
          refine Tri.run (G := gm_wal_Put) tyOk mixed ?_
          conv => whnf
          replace h := bind_some h
          obtain ⟨y1110, q1126, h⟩ := h
          replace h := bind_some h
          obtain ⟨y1112, q1127, h⟩ := h
          replace h := bind_some h
          obtain ⟨y1114, q1128, h⟩ := h
          refine Draw.many 10 (.take 1 (.take 3 (.alt 0 (.alt 2 (.alt 4 (.alt 5 (.take 6 (.take 7 (.take 8 (.alt 9 (.fin) (.nil))))) (.nil)) (.nil)) (.nil)) (.alt 2 (.alt 0 (.alt 4 (.alt 5 (.take 6 (.take 7 (.take 8 (.alt 9 (.fin) (.nil))))) (.nil)) (.nil)) (.alt 4 (.alt 0 (.alt 5 (.take 6 (.take 7 (.take 8 (.alt 9 (.fin) (.nil))))) (.nil)) (.nil)) (.nil))) (.nil))))) [0, 2, 3, 4, 5, 6, 7] (⟨72, 0, ofRegs [(1, .v (.int .i64 v731.1)), (3, .ptr 0 0), (6, .ptr 1 0), (68, .v (.int .i64 y1114.2))], [.var 31 [.sl (List.map encFile y1114.1.Files), .v (.int .i64 y1114.1.Room), .v (.int .i64 y1114.1.Fuse), .v (.bool y1114.1.Off)], .var 31 [.v (.slice none 0 0), .v (.int .i64 0), .v (.int .i64 0), .v (.bool false)]]⟩) (by kernel_rfl) ?_ ?_
          · conv => whnf
            refine ⟨?_, ?_⟩
            · conv => whnf
              refine ⟨?_, ?_⟩
              · conv => whnf
                refine PureP.mono (wal_Name_walk v731.1 y1110 q1126) ?_
                rintro _ rfl
                conv => whnf
                refine ⟨?_, ?_⟩
                · conv => whnf
                  refine PureP.mono (sum_Seal_walk rec y1112 q1127) ?_
                  rintro _ rfl
                  conv => whnf
                  refine ⟨?_, ?_⟩
                  · conv => whnf
                    refine PureP.mono (disk_Append_walk ({ Files := v731.2.1, Room := v731.2.2.1, Fuse := v731.2.2.2.1, Off := v731.2.2.2.2 } : Disk) y1110 y1112 y1114 q1128) ?_
                    rintro _ rfl
                    conv => whnf
                    refine ⟨?_, ?_⟩
                    · conv => whnf
                      exact weak_fin _ rfl rfl rfl (.cons (.same rfl) (.cons (.same rfl) (LeH.rest))) (.cons (.one (.same rfl)) (.cons (.one (.same rfl)) (.cons (.one (.same rfl)) (.cons (.one (.same rfl)) (.nil))))) rfl rfl
                    · conv => whnf
                      trivial
                  · conv => whnf
                    trivial
                · conv => whnf
                  trivial
              · conv => whnf
                trivial
            · conv => whnf
              refine ⟨?_, ?_⟩
              · conv => whnf
                refine PureP.mono (wal_Name_walk v731.1 y1110 q1126) ?_
                rintro _ rfl
                conv => whnf
                refine ⟨?_, ?_⟩
                · conv => whnf
                  refine ⟨?_, ?_⟩
                  · conv => whnf
                    refine PureP.mono (sum_Seal_walk rec y1112 q1127) ?_
                    rintro _ rfl
                    conv => whnf
                    refine ⟨?_, ?_⟩
                    · conv => whnf
                      refine PureP.mono (disk_Append_walk ({ Files := v731.2.1, Room := v731.2.2.1, Fuse := v731.2.2.2.1, Off := v731.2.2.2.2 } : Disk) y1110 y1112 y1114 q1128) ?_
                      rintro _ rfl
                      conv => whnf
                      refine ⟨?_, ?_⟩
                      · conv => whnf
                        exact weak_fin _ rfl rfl rfl (.cons (.same rfl) (.cons (.same rfl) (LeH.rest))) (.cons (.one (.same rfl)) (.cons (.one (.same rfl)) (.cons (.one (.same rfl)) (.cons (.one (.same rfl)) (.nil))))) rfl rfl
                      · conv => whnf
                        trivial
                    · conv => whnf
                      trivial
                  · conv => whnf
                    trivial
                · conv => whnf
                  refine ⟨?_, ?_⟩
                  · conv => whnf
                    refine PureP.mono (sum_Seal_walk rec y1112 q1127) ?_
                    rintro _ rfl
                    conv => whnf
                    refine ⟨?_, ?_⟩
                    · conv => whnf
                      refine ⟨?_, ?_⟩
                      · conv => whnf
                        refine PureP.mono (disk_Append_walk ({ Files := v731.2.1, Room := v731.2.2.1, Fuse := v731.2.2.2.1, Off := v731.2.2.2.2 } : Disk) y1110 y1112 y1114 q1128) ?_
                        rintro _ rfl
                        conv => whnf
                        refine ⟨?_, ?_⟩
                        · conv => whnf
                          exact weak_fin _ rfl rfl rfl (.cons (.same rfl) (.cons (.same rfl) (LeH.rest))) (.cons (.one (.same rfl)) (.cons (.one (.same rfl)) (.cons (.one (.same rfl)) (.cons (.one (.same rfl)) (.nil))))) rfl rfl
                        · conv => whnf
                          trivial
                      · conv => whnf
                        trivial
                    · conv => whnf
                      trivial
                  · conv => whnf
                    trivial
              · conv => whnf
                trivial
          · conv => whnf
            refine Tri.seqK ?_
            refine Tri.run (G := gm_wal_Put) tyOk mixed ?_
            conv => whnf
            refine Tri.run (G := gm_wal_Put) tyOk mixed ?_
            conv => whnf
            refine fin_here ?_
            conv => whnf
            obtain rfl := Option.some.inj h
            rfl
        · dsimp only at h
          conv => whnf
          refine fin_pre w1093 ?_
          conv => whnf
          obtain rfl := Option.some.inj h
          rfl
noncomputable def wal_Sync (d : Disk) (seg : Int) : Option (Disk × Int) :=
  (wal_Name seg).bind fun y34 =>
  (disk_Find d y34).bind fun y36 =>
  if (!y36.2) then
    some (d, 0)
  else
    (disk_Sync d y34).bind fun y49 =>
    some (y49.1, y49.2)
def gm_wal_Sync : Gm := ⟨tys, [], [], []⟩
theorem wal_Sync_walk (d : Disk) (seg : Int) (r : Disk × Int) (h : wal_Sync d seg = some r) : PureP Try.prog 19 [.agg [.sl (List.map encFile d.Files), .v (.int .i64 d.Room), .v (.int .i64 d.Fuse), .v (.bool d.Off)], .v (.int .i64 seg)] (fun a => a = .tup [.agg [.sl (List.map encFile r.1.Files), .v (.int .i64 r.1.Room), .v (.int .i64 r.1.Fuse), .v (.bool r.1.Off)], .v (.int .i64 r.2)]) := by
  unfold wal_Sync at h
  refine pureW (G := gm_wal_Sync) tyOk Try.func19 rfl (by kernel_rfl) (by simp [Try.f19]) ?_
  refine Tri.seqK ?_
  refine Tri.run (G := gm_wal_Sync) tyOk mixed ?_
  conv => whnf
  refine Tri.seqK ?_
  refine Tri.seqK ?_
  refine Tri.run (G := gm_wal_Sync) tyOk mixed ?_
  conv => whnf
  replace h := bind_some h
  obtain ⟨y34, q44, h⟩ := h
  replace h := bind_some h
  obtain ⟨y36, q45, h⟩ := h
  refine Draw.many 9 (.take 0 (.take 1 (.alt 2 (.alt 3 (.take 4 (.take 5 (.take 6 (.alt 7 (.alt 8 (.fin) (.nil)) (.nil))))) (.alt 7 (.alt 3 (.take 4 (.take 5 (.take 6 (.alt 8 (.fin) (.nil))))) (.nil)) (.nil))) (.alt 7 (.alt 2 (.alt 3 (.take 4 (.take 5 (.take 6 (.alt 8 (.fin) (.nil))))) (.nil)) (.nil)) (.nil))))) [2, 3, 4, 5, 6, 7] (⟨24, 0, ofRegs [(1, .v (.int .i64 seg)), (2, .ptr 0 0), (4, .ptr 1 0), (14, .v (.bool y36.2))], [.var 31 [.sl (List.map encFile d.Files), .v (.int .i64 d.Room), .v (.int .i64 d.Fuse), .v (.bool d.Off)], .var 31 [.v (.slice none 0 0), .v (.int .i64 0), .v (.int .i64 0), .v (.bool false)]]⟩) (by kernel_rfl) ?_ ?_
  · conv => whnf
    refine ⟨?_, ?_⟩
    · conv => whnf
      refine PureP.mono (wal_Name_walk seg y34 q44) ?_
      rintro _ rfl
      conv => whnf
      refine ⟨?_, ?_⟩
      · conv => whnf
        refine PureP.mono (disk_Find_walk d y34 y36 q45) ?_
        rintro _ rfl
        conv => whnf
        refine ⟨?_, ?_⟩
        · conv => whnf
          refine ⟨?_, ?_⟩
          · conv => whnf
            exact weak_fin _ rfl rfl rfl (.cons (.same rfl) (.cons (.same rfl) (LeH.rest))) (.cons (.one (.same rfl)) (.cons (.one (.same rfl)) (.cons (.one (.same rfl)) (.cons (.one (.same rfl)) (.nil))))) rfl rfl
          · conv => whnf
            trivial
        · conv => whnf
          trivial
      · conv => whnf
        refine ⟨?_, ?_⟩
        · conv => whnf
          refine ⟨?_, ?_⟩
          · conv => whnf
            refine PureP.mono (disk_Find_walk d y34 y36 q45) ?_
            rintro _ rfl
            conv => whnf
            refine ⟨?_, ?_⟩
            · conv => whnf
              exact weak_fin _ rfl rfl rfl (.cons (.same rfl) (.cons (.same rfl) (LeH.rest))) (.cons (.one (.same rfl)) (.cons (.one (.same rfl)) (.cons (.one (.same rfl)) (.cons (.one (.same rfl)) (.nil))))) rfl rfl
            · conv => whnf
              trivial
          · conv => whnf
            trivial
        · conv => whnf
          trivial
    · conv => whnf
      refine ⟨?_, ?_⟩
      · conv => whnf
        refine ⟨?_, ?_⟩
        · conv => whnf
          refine PureP.mono (wal_Name_walk seg y34 q44) ?_
          rintro _ rfl
          conv => whnf
          refine ⟨?_, ?_⟩
          · conv => whnf
            refine PureP.mono (disk_Find_walk d y34 y36 q45) ?_
            rintro _ rfl
            conv => whnf
            refine ⟨?_, ?_⟩
            · conv => whnf
              exact weak_fin _ rfl rfl rfl (.cons (.same rfl) (.cons (.same rfl) (LeH.rest))) (.cons (.one (.same rfl)) (.cons (.one (.same rfl)) (.cons (.one (.same rfl)) (.cons (.one (.same rfl)) (.nil))))) rfl rfl
            · conv => whnf
              trivial
          · conv => whnf
            trivial
        · conv => whnf
          trivial
      · conv => whnf
        trivial
  · conv => whnf
    refine Tri.seqK ?_
    refine Tri.run (G := gm_wal_Sync) tyOk mixed ?_
    conv => whnf
    refine Tri.cond rfl (fun c46 => ?_) (fun c46 => ?_)
    · replace h := if_t c46 h
      refine Tri.seqK ?_
      refine Tri.run (G := gm_wal_Sync) tyOk mixed ?_
      conv => whnf
      refine Tri.run (G := gm_wal_Sync) tyOk mixed ?_
      conv => whnf
      refine fin_here ?_
      conv => whnf
      obtain rfl := Option.some.inj h
      rfl
    · replace h := if_f c46 h
      refine Tri.run (G := gm_wal_Sync) tyOk mixed ?_
      conv => whnf
      refine Tri.seqK ?_
      refine Tri.run (G := gm_wal_Sync) tyOk mixed ?_
      conv => whnf
      refine Draw.one 6 (.take 0 (.take 1 (.alt 2 (.alt 3 (.take 4 (.take 5 (.fin))) (.nil)) (.nil)))) [] (by kernel_rfl) ?_
      conv => whnf
      refine ⟨?_, ?_⟩
      · conv => whnf
        refine PureP.mono (wal_Name_walk seg y34 q44) ?_
        rintro _ rfl
        conv => whnf
        refine ⟨?_, ?_⟩
        · conv => whnf
          replace h := bind_some h
          obtain ⟨y49, q50, h⟩ := h
          refine PureP.mono (disk_Sync_walk d y34 y49 q50) ?_
          rintro _ rfl
          conv => whnf
          refine Tri.run (G := gm_wal_Sync) tyOk mixed ?_
          conv => whnf
          refine fin_here ?_
          conv => whnf
          obtain rfl := Option.some.inj h
          rfl
        · conv => whnf
          trivial
      · conv => whnf
        trivial
noncomputable def ref03_Crash_l2 (d : Disk) (keeps : (List Int)) (a884 : Int) (a885 : Int) (a886 : (List File)) : Option ((Int × Int × (List File)) ⊕ (Int × (List File))) :=
  if (decide (a884 < (d.Files.length : Int))) then
    (ix d.Files a884).bind fun x955 =>
    (
      (
        if (decide (a884 < (keeps.length : Int))) then
          (ix keeps a884).bind fun x998 =>
          some (decide (x998 > 0))
        else
          some false).bind fun (y995 : Bool) =>
      if y995 then
        (ix keeps a884).bind fun x1002 =>
        some x1002
      else
        some 0).bind fun (y987 : Int) =>
    need (0 ≤ (0 : Int) ∧ 0 ≤ (if (decide (y987 > (x955.Wait.length : Int))) then (x955.Wait.length : Int) else y987) ∧ (if (decide (y987 > (x955.Wait.length : Int))) then (x955.Wait.length : Int) else y987) ≤ (x955.Wait.length : Int)) <|
    need (x955.Safe.length + (cut x955.Wait 0 (if (decide (y987 > (x955.Wait.length : Int))) then (x955.Wait.length : Int) else y987)).length ≤ 9223372036854775807) <|
    need ((a886.length + 1) * 48 ≤ 140737488355328) <|
    some (.inl ((IntKind.i64.wrap (a884 + 1)), (IntKind.i64.wrap ((IntKind.i64.wrap (a885 + (x955.Wait.length : Int))) - (if (decide (y987 > (x955.Wait.length : Int))) then (x955.Wait.length : Int) else y987))), (a886 ++ [({ Name := x955.Name, Safe := (x955.Safe ++ (cut x955.Wait 0 (if (decide (y987 > (x955.Wait.length : Int))) then (x955.Wait.length : Int) else y987))), Wait := [] } : File)])))
  else
    some (.inr (a885, a886))
noncomputable def ref03_Crash (d : Disk) (keeps : (List Int)) : Option (Disk) :=
  (loop (fun (s889 : Int × Int × (List File)) => ref03_Crash_l2 d keeps s889.1 s889.2.1 s889.2.2) ((0 : Int), d.Room, ([] : (List File)))).bind fun (y887 : Int × (List File)) =>
  some ({ Files := y887.2, Room := y887.1, Fuse := (-1), Off := false } : Disk)
def gm_ref03_Crash : Gm := ⟨tys, [], [], []⟩
theorem ref03_Crash_walk (d : Disk) (keeps : (List Int)) (r : Disk) (h : ref03_Crash d keeps = some r) : PureP Try.prog 25 [.agg [.sl (List.map encFile d.Files), .v (.int .i64 d.Room), .v (.int .i64 d.Fuse), .v (.bool d.Off)], .sl (List.map (encI .i64) keeps)] (fun a => a = .agg [.sl (List.map encFile r.Files), .v (.int .i64 r.Room), .v (.int .i64 r.Fuse), .v (.bool r.Off)]) := by
  unfold ref03_Crash at h
  refine pureW (G := gm_ref03_Crash) tyOk Try.func25 rfl (by kernel_rfl) (by simp [Try.f25]) ?_
  refine Tri.seqK ?_
  refine Tri.run (G := gm_ref03_Crash) tyOk mixed ?_
  conv => whnf
  refine Tri.seqK ?_
  refine Tri.run (G := gm_ref03_Crash) tyOk mixed ?_
  conv => whnf
  refine Tri.seqK ?_
  refine Tri.seqK ?_
  refine Tri.run (G := gm_ref03_Crash) tyOk mixed ?_
  conv => whnf
  refine Tri.block ?_
  replace h := bind_some h
  obtain ⟨y887, q888, h⟩ := h
  refine Tri.cut (fun ex S' => ex = (.exit 0) ∧ Weak S' ⟨72, 0, ofRegs [(4, .ptr 1 0), (5, .ptr 2 0)], [.gone, .var 31 [.v (.slice none 0 0), .v (.int .i64 0), .v (.int .i64 0), .v (.bool false)], .var 31 [.row 3 ((List.map encFile y887.2).length), .v (.int .i64 y887.1), .v (.int .i64 (-1)), .v (.bool false)], .row 69 3 (List.map encFile y887.2)]⟩) ?_ ?_
  · refine Tri.loopF (fun (s889 : Int × Int × (List File)) => (⟨72, 0, ofRegs [(1, .sl (List.map (encI .i64) keeps)), (2, .ptr 0 0), (4, .ptr 1 0), (5, .ptr 2 0), (6, .v (.int .i64 s889.1))], [.var 31 [.sl (List.map encFile d.Files), .v (.int .i64 d.Room), .v (.int .i64 d.Fuse), .v (.bool d.Off)], .var 31 [.v (.slice none 0 0), .v (.int .i64 0), .v (.int .i64 0), .v (.bool false)], .var 31 [.row 3 ((List.map encFile s889.2.2).length), .v (.int .i64 s889.2.1), .v (.int .i64 (-1)), .v (.bool false)], .row 69 3 (List.map encFile s889.2.2)]⟩ : St)) q888 (Weak.trans (weak_nilcell 2 0 69 3 rfl rfl) (weak_fin _ rfl rfl rfl (.cons (.same rfl) (.cons (.same rfl) (.cons (.var (.cons (.same (show (.row 3 0 : AV) = (.row 3 ((List.map encFile []).length) : AV) from congrArg (AV.row 3) (by simp))) (.cons (.same rfl) (.cons (.same rfl) (.cons (.same rfl) (.nil)))))) (.cons (.same rfl) (LeH.rest))))) (.cons (.one (.same rfl)) (.cons (.one (.same rfl)) (.cons (.one (.same rfl)) (.cons (.one (.same rfl)) (.cons (.one (.same rfl)) (.nil)))))) rfl rfl)) ?_
    rintro ⟨a884, a885, a886⟩ v890 hv r891
    have hv : ref03_Crash_l2 d keeps a884 a885 a886 = some v890 := hv
    unfold ref03_Crash_l2 at hv
    dsimp only
    refine Tri.seqK ?_
    refine Tri.seqK ?_
    refine Tri.run (G := gm_ref03_Crash) tyOk mixed ?_
    conv => whnf
    refine ⟨⟨(d.Files.length : Int), (len_map _ _).symm, ?_⟩⟩
    conv => whnf
    refine Tri.cond rfl (fun c893 => ?_) (fun c893 => ?_)
    · replace hv := if_t c893 hv
      refine Tri.run (G := gm_ref03_Crash) tyOk mixed ?_
      conv => whnf
      refine Tri.seqK ?_
      refine Tri.block ?_
      refine Tri.seqK ?_
      refine Tri.run (G := gm_ref03_Crash) tyOk mixed ?_
      conv => whnf
      replace hv := bind_some hv
      obtain ⟨x955, q956, hv⟩ := hv
      refine ⟨(ix_some q956).1, ?_⟩
      conv => whnf
      refine ⟨⟨_, map_get encFile (ix_some q956).2, ?_⟩⟩
      conv => whnf
      refine ⟨rfl, ?_⟩
      conv => whnf
      refine Tri.seqK ?_
      refine Tri.run (G := gm_ref03_Crash) tyOk mixed ?_
      conv => whnf
      refine Tri.seqK ?_
      replace hv := bind_some hv
      obtain ⟨y987, q988, hv⟩ := hv
      refine Tri.cut (fun ex S' => ex = .normal ∧ Weak S' ⟨72, 0, ofRegs [(1, .sl (List.map (encI .i64) keeps)), (2, .ptr 0 0), (4, .ptr 1 0), (5, .ptr 2 0), (6, .v (.int .i64 a884)), (7, .ptr 4 0), (8, .v (.int .i64 y987))], [.var 31 [.sl (List.map encFile d.Files), .v (.int .i64 d.Room), .v (.int .i64 d.Fuse), .v (.bool d.Off)], .var 31 [.v (.slice none 0 0), .v (.int .i64 0), .v (.int .i64 0), .v (.bool false)], .var 31 [.row 3 ((List.map encFile a886).length), .v (.int .i64 a885), .v (.int .i64 (-1)), .v (.bool false)], .row 69 3 (List.map encFile a886), .var 69 [.v (.string (bs x955.Name)), .v (.string (bs x955.Safe)), .v (.string (bs x955.Wait))]]⟩) ?_ ?_
      · refine Tri.seqK ?_
        replace q988 := bind_some q988
        obtain ⟨y995, q996, q988⟩ := q988
        refine Tri.cut (fun ex S' => ex = .normal ∧ Weak S' ⟨72, 0, ofRegs [(1, .sl (List.map (encI .i64) keeps)), (2, .ptr 0 0), (4, .ptr 1 0), (5, .ptr 2 0), (6, .v (.int .i64 a884)), (7, .ptr 4 0), (8, .v (.int .i64 0)), (34, .v (.bool y995))], [.var 31 [.sl (List.map encFile d.Files), .v (.int .i64 d.Room), .v (.int .i64 d.Fuse), .v (.bool d.Off)], .var 31 [.v (.slice none 0 0), .v (.int .i64 0), .v (.int .i64 0), .v (.bool false)], .var 31 [.row 3 ((List.map encFile a886).length), .v (.int .i64 a885), .v (.int .i64 (-1)), .v (.bool false)], .row 69 3 (List.map encFile a886), .var 69 [.v (.string (bs x955.Name)), .v (.string (bs x955.Safe)), .v (.string (bs x955.Wait))]]⟩) ?_ ?_
        · refine Tri.run (G := gm_ref03_Crash) tyOk mixed ?_
          conv => whnf
          refine ⟨⟨(keeps.length : Int), (len_map _ _).symm, ?_⟩⟩
          conv => whnf
          refine cond_mk (fun c997 => ?_) (fun c997 => ?_)
          · replace q996 := if_t c997 q996
            conv => whnf
            replace q996 := bind_some q996
            obtain ⟨x998, q999, q996⟩ := q996
            refine ⟨(ix_some q999).1, ?_⟩
            conv => whnf
            refine ⟨⟨_, map_get (encI .i64) (ix_some q999).2, ?_⟩⟩
            conv => whnf
            refine ⟨rfl, ?_⟩
            conv => whnf
            obtain rfl := Option.some.inj q996
            exact ⟨rfl, weak_fin _ rfl rfl rfl (.cons (.same rfl) (.cons (.same rfl) (.cons (.same rfl) (.cons (.same rfl) (.cons (.same rfl) (LeH.rest)))))) (.cons (.one (.same rfl)) (.cons (.one (.same rfl)) (.cons (.one (.same rfl)) (.cons (.one (.same rfl)) (.cons (.one (.same rfl)) (.cons (.one (.same rfl)) (.cons (.one (.same rfl)) (.cons (.one (.same rfl)) (.nil))))))))) rfl rfl⟩
          · replace q996 := if_f c997 q996
            conv => whnf
            obtain rfl := Option.some.inj q996
            exact ⟨rfl, weak_fin _ rfl rfl rfl (.cons (.same rfl) (.cons (.same rfl) (.cons (.same rfl) (.cons (.same rfl) (.cons (.same rfl) (LeH.rest)))))) (.cons (.one (.same rfl)) (.cons (.one (.same rfl)) (.cons (.one (.same rfl)) (.cons (.one (.same rfl)) (.cons (.one (.same rfl)) (.cons (.one (.same rfl)) (.cons (.one (.same rfl)) (.cons (.one (.same rfl)) (.nil))))))))) rfl rfl⟩
        · rintro ex S' ⟨rfl, w1000⟩
          conv => whnf
          refine Tri.weak w1000 ?_
          refine Tri.cond rfl (fun c1001 => ?_) (fun c1001 => ?_)
          · replace q988 := if_t c1001 q988
            refine Tri.run (G := gm_ref03_Crash) tyOk mixed ?_
            conv => whnf
            replace q988 := bind_some q988
            obtain ⟨x1002, q1003, q988⟩ := q988
            refine ⟨(ix_some q1003).1, ?_⟩
            conv => whnf
            refine ⟨⟨_, map_get (encI .i64) (ix_some q1003).2, ?_⟩⟩
            conv => whnf
            refine ⟨rfl, ?_⟩
            conv => whnf
            obtain rfl := Option.some.inj q988
            exact ⟨rfl, weak_fin _ rfl rfl rfl (.cons (.same rfl) (.cons (.same rfl) (.cons (.same rfl) (.cons (.same rfl) (.cons (.same rfl) (LeH.rest)))))) (.cons (.one (.same rfl)) (.cons (.one (.same rfl)) (.cons (.one (.same rfl)) (.cons (.one (.same rfl)) (.cons (.one (.same rfl)) (.cons (.one (.same rfl)) (.cons (.one (.same rfl)) (.nil)))))))) rfl rfl⟩
          · replace q988 := if_f c1001 q988
            refine Tri.run (G := gm_ref03_Crash) tyOk mixed ?_
            conv => whnf
            obtain rfl := Option.some.inj q988
            exact ⟨rfl, weak_fin _ rfl rfl rfl (.cons (.same rfl) (.cons (.same rfl) (.cons (.same rfl) (.cons (.same rfl) (.cons (.same rfl) (LeH.rest)))))) (.cons (.one (.same rfl)) (.cons (.one (.same rfl)) (.cons (.one (.same rfl)) (.cons (.one (.same rfl)) (.cons (.one (.same rfl)) (.cons (.one (.same rfl)) (.cons (.one (.same rfl)) (.nil)))))))) rfl rfl⟩
      · rintro ex S' ⟨rfl, w1004⟩
        conv => whnf
        refine Tri.weak w1004 ?_
        refine Tri.seqK ?_
        refine Tri.cut (fun ex S' => ex = .normal ∧ Weak S' ⟨72, 0, ofRegs [(1, .sl (List.map (encI .i64) keeps)), (2, .ptr 0 0), (4, .ptr 1 0), (5, .ptr 2 0), (6, .v (.int .i64 a884)), (7, .ptr 4 0), (8, .v (.int .i64 (if (decide (y987 > (x955.Wait.length : Int))) then (x955.Wait.length : Int) else y987)))], [.var 31 [.sl (List.map encFile d.Files), .v (.int .i64 d.Room), .v (.int .i64 d.Fuse), .v (.bool d.Off)], .var 31 [.v (.slice none 0 0), .v (.int .i64 0), .v (.int .i64 0), .v (.bool false)], .var 31 [.row 3 ((List.map encFile a886).length), .v (.int .i64 a885), .v (.int .i64 (-1)), .v (.bool false)], .row 69 3 (List.map encFile a886), .var 69 [.v (.string (bs x955.Name)), .v (.string (bs x955.Safe)), .v (.string (bs x955.Wait))]]⟩) ?_ ?_
        · refine Tri.seqK ?_
          refine Tri.run (G := gm_ref03_Crash) tyOk mixed ?_
          conv => whnf
          refine ⟨⟨(x955.Wait.length : Int), rfl, ?_⟩⟩
          conv => whnf
          refine Tri.cond rfl (fun c1008 => ?_) (fun c1008 => ?_)
          · replace c1008 : (decide (y987 > (x955.Wait.length : Int))) = true := c1008
            refine Tri.run (G := gm_ref03_Crash) tyOk mixed ?_
            conv => whnf
            refine ⟨⟨(x955.Wait.length : Int), rfl, ?_⟩⟩
            conv => whnf
            exact ⟨rfl, weak_fin _ rfl rfl rfl (.cons (.same rfl) (.cons (.same rfl) (.cons (.same rfl) (.cons (.same rfl) (.cons (.same rfl) (LeH.rest)))))) (.cons (.one (.same rfl)) (.cons (.one (.same rfl)) (.cons (.one (.same rfl)) (.cons (.one (.same rfl)) (.cons (.one (.same rfl)) (.cons (.one (.same rfl)) (.cons (.one (.same (show (.v (.int .i64 (x955.Wait.length : Int)) : AV) = (.v (.int .i64 (if (decide (y987 > (x955.Wait.length : Int))) then (x955.Wait.length : Int) else y987)) : AV) from by first | (simp [c1008]; done) | simp only [c1008, Bool.or_true, Bool.true_or, Bool.false_or, Bool.or_false, Bool.and_true, Bool.true_and, Bool.and_false, Bool.false_and, Bool.not_true, Bool.not_false, if_true, if_false, Bool.false_eq_true]))) (.nil)))))))) rfl rfl⟩
          · replace c1008 : (decide (y987 > (x955.Wait.length : Int))) = false := c1008
            refine Tri.run (G := gm_ref03_Crash) tyOk mixed ?_
            conv => whnf
            exact ⟨rfl, weak_fin _ rfl rfl rfl (.cons (.same rfl) (.cons (.same rfl) (.cons (.same rfl) (.cons (.same rfl) (.cons (.same rfl) (LeH.rest)))))) (.cons (.one (.same rfl)) (.cons (.one (.same rfl)) (.cons (.one (.same rfl)) (.cons (.one (.same rfl)) (.cons (.one (.same rfl)) (.cons (.one (.same rfl)) (.cons (.one (.same (show (.v (.int .i64 y987) : AV) = (.v (.int .i64 (if (decide (y987 > (x955.Wait.length : Int))) then (x955.Wait.length : Int) else y987)) : AV) from by first | (simp [c1008]; done) | simp only [c1008, Bool.or_true, Bool.true_or, Bool.false_or, Bool.or_false, Bool.and_true, Bool.true_and, Bool.and_false, Bool.false_and, Bool.not_true, Bool.not_false, if_true, if_false, Bool.false_eq_true]))) (.nil)))))))) rfl rfl⟩
        · rintro ex S' ⟨rfl, w1009⟩
          conv => whnf
          refine Tri.weak w1009 ?_
          refine Tri.seqK ?_
          refine Tri.run (G := gm_ref03_Crash) tyOk mixed ?_
          conv => whnf
          refine ⟨⟨(x955.Wait.length : Int), rfl, ?_⟩⟩
          conv => whnf
          refine Tri.run (G := gm_ref03_Crash) tyOk mixed ?_
          conv => whnf
          refine Draw.one 15 (.take 0 (.take 1 (.take 2 (.take 3 (.take 4 (.take 5 (.take 6 (.take 7 (.take 8 (.take 9 (.take 10 (.take 11 (.alt 12 (.alt 13 (.take 14 (.fin)) (.nil)) (.nil)))))))))))))) [] (by kernel_rfl) ?_
          conv => whnf
          replace hv := need_some hv
          obtain ⟨p1013, hv⟩ := hv
          refine ⟨p1013, ?_⟩
          conv => whnf
          refine ⟨⟨bs (cut x955.Wait 0 (if (decide (y987 > (x955.Wait.length : Int))) then (x955.Wait.length : Int) else y987)), bs_cut _ _ _, ?_⟩⟩
          conv => whnf
          replace hv := need_some hv
          obtain ⟨p1014, hv⟩ := hv
          refine ⟨p1014, ?_⟩
          conv => whnf
          refine ⟨⟨bs (x955.Safe ++ (cut x955.Wait 0 (if (decide (y987 > (x955.Wait.length : Int))) then (x955.Wait.length : Int) else y987))), bs_append _ _, ?_⟩⟩
          conv => whnf
          refine ⟨?_, ?_⟩
          · conv => whnf
            refine ⟨⟨List.map encFile [({ Name := x955.Name, Safe := (x955.Safe ++ (cut x955.Wait 0 (if (decide (y987 > (x955.Wait.length : Int))) then (x955.Wait.length : Int) else y987))), Wait := [] } : File)], rfl, ?_⟩⟩
            conv => whnf
            refine ⟨?_, ?_⟩
            · conv => whnf
              refine ⟨rfl, ?_⟩
              conv => whnf
              refine ⟨rfl, ?_⟩
              conv => whnf
              replace hv := need_some hv
              obtain ⟨p1015, hv⟩ := hv
              refine ⟨by simp only [List.length_map]; exact p1015, ?_⟩
              conv => whnf
              refine ⟨⟨List.map encFile (a886 ++ [({ Name := x955.Name, Safe := (x955.Safe ++ (cut x955.Wait 0 (if (decide (y987 > (x955.Wait.length : Int))) then (x955.Wait.length : Int) else y987))), Wait := [] } : File)]), map_app encFile _ _ rfl rfl, ?_⟩⟩
              conv => whnf
              refine Tri.run (G := gm_ref03_Crash) tyOk mixed ?_
              conv => whnf
              obtain rfl := Option.some.inj hv
              exact ⟨_, rfl, weak_fin _ rfl rfl rfl (.cons (.same rfl) (.cons (.same rfl) (.cons (.same rfl) (.cons (.same rfl) (LeH.rest))))) (.cons (.one (.same rfl)) (.cons (.one (.same rfl)) (.cons (.one (.same rfl)) (.cons (.one (.same rfl)) (.cons (.one (.same rfl)) (.nil)))))) rfl rfl⟩
            · conv => whnf
              trivial
          · conv => whnf
            trivial
    · replace hv := if_f c893 hv
      refine Tri.run (G := gm_ref03_Crash) tyOk mixed ?_
      conv => whnf
      obtain rfl := Option.some.inj hv
      obtain rfl := r891 _ rfl
      exact ⟨rfl, weak_fin _ rfl rfl rfl (.cons (.gone) (.cons (.same rfl) (.cons (.same rfl) (.cons (.same rfl) (LeH.rest))))) (.cons (.one (.same rfl)) (.cons (.one (.same rfl)) (.nil))) rfl rfl⟩
  · rintro ex S' ⟨rfl, w1016⟩
    conv => whnf
    refine Tri.weak w1016 ?_
    refine Tri.seqK ?_
    refine Tri.run (G := gm_ref03_Crash) tyOk mixed ?_
    conv => whnf
    refine Tri.run (G := gm_ref03_Crash) tyOk mixed ?_
    conv => whnf
    refine fin_here ?_
    conv => whnf
    refine ⟨rfl, ?_⟩
    conv => whnf
    obtain rfl := Option.some.inj h
    rfl
noncomputable def dec_told_l2 (s : Str) (a65 : Int) (a66 : Int) : Option ((Int × Int) ⊕ ((Unit) ⊕ (Int))) :=
  if (decide (a66 < (s.length : Int))) then
    (ix s a66).bind fun x80 =>
    if (decide (a65 > (IntKind.u64.wrap (Int.tdiv (IntKind.u64.wrap (18446744073709551615 - (IntKind.u64.wrap (IntKind.u8.wrap ((x80.toNat : Int) - 48))))) 10)))) then
      some (.inr (.inl ()))
    else
      some (.inl ((IntKind.u64.wrap ((IntKind.u64.wrap (10 * a65)) + (IntKind.u64.wrap (IntKind.u8.wrap ((x80.toNat : Int) - 48))))), (IntKind.i64.wrap (a66 + 1))))
  else
    some (.inr (.inr a65))
noncomputable def dec_told (s : Str) : Option (Int × Bool) :=
  (loop (fun (s71 : Int × Int) => dec_told_l2 s s71.1 s71.2) ((0 : Int), (0 : Int))).bind fun (y67 : (Unit) ⊕ (Int)) =>
  match y67 with
  | (.inl v69) =>
    some (0, false)
  | (.inr v70) =>
    some (v70, true)
def gm_dec_told : Gm := ⟨tys, [], [], []⟩
theorem dec_told_walk (s : Str) (r : Int × Bool) (h : dec_told s = some r) : PureP Try.prog 80 [.v (.string (bs s))] (fun a => a = .tup [.v (.int .u64 r.1), .v (.bool r.2)]) := by
  unfold dec_told at h
  refine pureW (G := gm_dec_told) tyOk Try.func80 rfl (by kernel_rfl) (by simp [Try.f80]) ?_
  refine Tri.seqK ?_
  refine Tri.run (G := gm_dec_told) tyOk mixed ?_
  conv => whnf
  refine Tri.seqK ?_
  refine Tri.run (G := gm_dec_told) tyOk mixed ?_
  conv => whnf
  refine Tri.seqK ?_
  refine Tri.seqK ?_
  refine Tri.run (G := gm_dec_told) tyOk mixed ?_
  conv => whnf
  refine ⟨⟨(s.length : Int), rfl, ?_⟩⟩
  conv => whnf
  refine Tri.block ?_
  replace h := bind_some h
  obtain ⟨y67, q68, h⟩ := h
  refine Tri.cut (fun ex S' => (∃ v69 : Unit, y67 = (.inl v69) ∧ ex = .ret ∧ Weak S' ⟨28, 0, ofRegs [(2, .v (.int .u64 0)), (3, .v (.bool false))], []⟩) ∨ (∃ v70 : Int, y67 = (.inr v70) ∧ ex = (.exit 0) ∧ Weak S' ⟨28, 0, ofRegs [(4, .v (.int .u64 v70))], []⟩)) ?_ ?_
  · refine Tri.loopF (fun (s71 : Int × Int) => (⟨28, 0, ofRegs [(0, .v (.string (bs s))), (4, .v (.int .u64 s71.1)), (8, .v (.int .i64 (s.length : Int))), (9, .v (.int .i64 s71.2))], []⟩ : St)) q68 (weak_fin _ rfl rfl rfl (LeH.rest) (.cons (.one (.same rfl)) (.cons (.one (.same rfl)) (.cons (.one (.same rfl)) (.cons (.one (.same rfl)) (.nil))))) rfl rfl) ?_
    rintro ⟨a65, a66⟩ v72 hv r73
    have hv : dec_told_l2 s a65 a66 = some v72 := hv
    unfold dec_told_l2 at hv
    dsimp only
    refine Tri.seqK ?_
    refine Tri.run (G := gm_dec_told) tyOk mixed ?_
    conv => whnf
    refine Tri.seqK ?_
    refine Tri.cond rfl (fun c75 => ?_) (fun c75 => ?_)
    · replace hv := if_t c75 hv
      refine Tri.run (G := gm_dec_told) tyOk mixed ?_
      conv => whnf
      refine Tri.seqK ?_
      refine Tri.block ?_
      refine Tri.seqK ?_
      refine Tri.run (G := gm_dec_told) tyOk mixed ?_
      conv => whnf
      refine Tri.seqK ?_
      refine Tri.run (G := gm_dec_told) tyOk mixed ?_
      conv => whnf
      replace hv := bind_some hv
      obtain ⟨x80, q81, hv⟩ := hv
      refine ⟨bs_bound q81, ?_⟩
      conv => whnf
      refine ⟨⟨(x80.toNat : Int), bs_at q81, ?_⟩⟩
      conv => whnf
      refine ⟨⟨(IntKind.u64.wrap (IntKind.u8.wrap ((x80.toNat : Int) - 48))), rfl, ?_⟩⟩
      conv => whnf
      refine Tri.seqK ?_
      refine Tri.seqK ?_
      refine Tri.run (G := gm_dec_told) tyOk mixed ?_
      conv => whnf
      refine ⟨by decide, ?_⟩
      conv => whnf
      refine Tri.cond rfl (fun c83 => ?_) (fun c83 => ?_)
      · replace hv := if_t c83 hv
        refine Tri.seqK ?_
        refine Tri.run (G := gm_dec_told) tyOk mixed ?_
        conv => whnf
        refine Tri.run (G := gm_dec_told) tyOk mixed ?_
        conv => whnf
        obtain rfl := Option.some.inj hv
        obtain rfl := r73 _ rfl
        exact Or.inl ⟨_, rfl, rfl, weak_fin _ rfl rfl rfl (LeH.rest) (.cons (.one (.same rfl)) (.cons (.one (.same rfl)) (.nil))) rfl rfl⟩
      · replace hv := if_f c83 hv
        refine Tri.run (G := gm_dec_told) tyOk mixed ?_
        conv => whnf
        refine Tri.run (G := gm_dec_told) tyOk mixed ?_
        conv => whnf
        refine Tri.run (G := gm_dec_told) tyOk mixed ?_
        conv => whnf
        obtain rfl := Option.some.inj hv
        exact ⟨_, rfl, weak_fin _ rfl rfl rfl (LeH.rest) (.cons (.one (.same rfl)) (.cons (.one (.same rfl)) (.cons (.one (.same rfl)) (.cons (.one (.same rfl)) (.nil))))) rfl rfl⟩
    · replace hv := if_f c75 hv
      refine Tri.run (G := gm_dec_told) tyOk mixed ?_
      conv => whnf
      obtain rfl := Option.some.inj hv
      obtain rfl := r73 _ rfl
      exact Or.inr (⟨_, rfl, rfl, weak_fin _ rfl rfl rfl (LeH.rest) (.cons (.one (.same rfl)) (.nil)) rfl rfl⟩)
  · rintro ex S' (⟨v69, rfl, rfl, w84⟩ | ⟨v70, rfl, rfl, w84⟩)
    · dsimp only at h
      conv => whnf
      refine fin_pre w84 ?_
      conv => whnf
      obtain rfl := Option.some.inj h
      rfl
    · dsimp only at h
      conv => whnf
      refine Tri.weak w84 ?_
      refine Tri.seqK ?_
      refine Tri.run (G := gm_dec_told) tyOk mixed ?_
      conv => whnf
      refine Tri.run (G := gm_dec_told) tyOk mixed ?_
      conv => whnf
      refine fin_here ?_
      conv => whnf
      obtain rfl := Option.some.inj h
      rfl
noncomputable def dec_TakeNum_l2 (s : Str) (a150 : Int) : Option ((Int) ⊕ (Int)) :=
  if (decide (a150 < (s.length : Int))) then
    (
      (ix s a150).bind fun x179 =>
      if (decide ((x179.toNat : Int) < 48)) then
        some true
      else
        some (decide ((x179.toNat : Int) > 57))).bind fun (y177 : Bool) =>
    if y177 then
      some (.inr a150)
    else
      some (.inl (IntKind.i64.wrap (a150 + 1)))
  else
    some (.inr a150)
noncomputable def dec_TakeNum (s : Str) : Option (Int × Str × Int) :=
  (loop (fun (s153 : Int) => dec_TakeNum_l2 s s153) (0 : Int)).bind fun (y151 : Int) =>
  if (decide (y151 > 20)) then
    some (0, [], 3)
  else
    need (0 ≤ (0 : Int) ∧ 0 ≤ y151 ∧ y151 ≤ (s.length : Int)) <|
    (dec_told (cut s 0 y151)).bind fun y188 =>
    (
      (
        if (decide (y151 > 1)) then
          (ix s 0).bind fun x906 =>
          some (decide ((x906.toNat : Int) = 48))
        else
          some false).bind fun (y903 : Bool) =>
      if y903 then
        some (.inl ())
      else
        if (!y188.2) then
          some (.inl ())
        else
          (
            if (decide (y151 < (s.length : Int))) then
              if (decide (y151 = 0)) then
                some true
              else
                (ix s y151).bind fun x940 =>
                some (!(decide ((x940.toNat : Int) = 59)))
            else
              some false).bind fun (y936 : Bool) =>
          if y936 then
            some (.inl ())
          else
            if (decide (y151 = (s.length : Int))) then
              some (.inr (.inl ()))
            else
              some (.inr (.inr ()))).bind fun (y879 : (Unit) ⊕ (Unit) ⊕ (Unit)) =>
    match y879 with
    | (.inl v881) =>
      some (0, [], 3)
    | (.inr (.inl v882)) =>
      some (0, [], 2)
    | (.inr (.inr v883)) =>
      need (0 ≤ (IntKind.i64.wrap (y151 + 1)) ∧ (IntKind.i64.wrap (y151 + 1)) ≤ (s.length : Int) ∧ (s.length : Int) ≤ (s.length : Int)) <|
      some (y188.1, (cut s (IntKind.i64.wrap (y151 + 1)) (s.length : Int)), 0)
def gm_dec_TakeNum : Gm := ⟨tys, [], [], []⟩
theorem dec_TakeNum_walk (s : Str) (r : Int × Str × Int) (h : dec_TakeNum s = some r) : PureP Try.prog 74 [.v (.string (bs s))] (fun a => a = .tup [.v (.int .u64 r.1), .v (.string (bs r.2.1)), .v (.int .i64 r.2.2)]) := by
  unfold dec_TakeNum at h
  refine pureW (G := gm_dec_TakeNum) tyOk Try.func74 rfl (by kernel_rfl) (by simp [Try.f74]) ?_
  refine Tri.seqK ?_
  refine Tri.run (G := gm_dec_TakeNum) tyOk mixed ?_
  conv => whnf
  refine Tri.scope ?_
  refine Tri.seqK ?_
  refine Tri.run (G := gm_dec_TakeNum) tyOk mixed ?_
  conv => whnf
  refine Tri.seqK ?_
  refine Tri.run (G := gm_dec_TakeNum) tyOk mixed ?_
  conv => whnf
  refine Tri.seqK ?_
  refine Tri.block ?_
  replace h := bind_some h
  obtain ⟨y151, q152, h⟩ := h
  refine Tri.cut (fun ex S' => ex = (.exit 0) ∧ Weak S' ⟨68, 0, ofRegs [(0, .v (.string (bs s))), (5, .v (.int .i64 y151))], []⟩) ?_ ?_
  · refine Tri.loopF (fun (s153 : Int) => (⟨68, 0, ofRegs [(0, .v (.string (bs s))), (5, .v (.int .i64 s153))], []⟩ : St)) q152 (weak_fin _ rfl rfl rfl (LeH.rest) (.cons (.one (.same rfl)) (.cons (.one (.same rfl)) (.nil))) rfl rfl) ?_
    rintro a150 v154 hv r155
    have hv : dec_TakeNum_l2 s a150 = some v154 := hv
    unfold dec_TakeNum_l2 at hv
    refine Tri.seqK ?_
    refine Tri.seqK ?_
    refine Tri.run (G := gm_dec_TakeNum) tyOk mixed ?_
    conv => whnf
    refine ⟨⟨(s.length : Int), rfl, ?_⟩⟩
    conv => whnf
    refine Tri.cond rfl (fun c157 => ?_) (fun c157 => ?_)
    · replace hv := if_t c157 hv
      refine Tri.run (G := gm_dec_TakeNum) tyOk mixed ?_
      conv => whnf
      refine Tri.seqK ?_
      refine Tri.block ?_
      refine Tri.block ?_
      refine Tri.seqK ?_
      replace hv := bind_some hv
      obtain ⟨y177, q178, hv⟩ := hv
      refine Tri.cut (fun ex S' => ex = .normal ∧ Weak S' ⟨68, 0, ofRegs [(0, .v (.string (bs s))), (5, .v (.int .i64 a150)), (14, .v (.bool y177))], []⟩) ?_ ?_
      · refine Tri.seqK ?_
        refine Tri.run (G := gm_dec_TakeNum) tyOk mixed ?_
        conv => whnf
        replace q178 := bind_some q178
        obtain ⟨x179, q180, q178⟩ := q178
        refine ⟨bs_bound q180, ?_⟩
        conv => whnf
        refine ⟨⟨(x179.toNat : Int), bs_at q180, ?_⟩⟩
        conv => whnf
        refine Tri.cond rfl (fun c181 => ?_) (fun c181 => ?_)
        · replace q178 := if_t c181 q178
          refine Tri.run (G := gm_dec_TakeNum) tyOk mixed ?_
          conv => whnf
          obtain rfl := Option.some.inj q178
          exact ⟨rfl, weak_fin _ rfl rfl rfl (LeH.rest) (.cons (.one (.same rfl)) (.cons (.one (.same rfl)) (.cons (.one (.same rfl)) (.nil)))) rfl rfl⟩
        · replace q178 := if_f c181 q178
          refine Tri.run (G := gm_dec_TakeNum) tyOk mixed ?_
          conv => whnf
          refine ⟨bs_bound q180, ?_⟩
          conv => whnf
          refine ⟨⟨(x179.toNat : Int), bs_at q180, ?_⟩⟩
          conv => whnf
          obtain rfl := Option.some.inj q178
          exact ⟨rfl, weak_fin _ rfl rfl rfl (LeH.rest) (.cons (.one (.same rfl)) (.cons (.one (.same rfl)) (.cons (.one (.same rfl)) (.nil)))) rfl rfl⟩
      · rintro ex S' ⟨rfl, w182⟩
        conv => whnf
        refine Tri.weak w182 ?_
        refine Tri.cond rfl (fun c183 => ?_) (fun c183 => ?_)
        · replace hv := if_t c183 hv
          refine Tri.run (G := gm_dec_TakeNum) tyOk mixed ?_
          conv => whnf
          obtain rfl := Option.some.inj hv
          obtain rfl := r155 _ rfl
          exact ⟨rfl, weak_fin _ rfl rfl rfl (LeH.rest) (.cons (.one (.same rfl)) (.cons (.one (.same rfl)) (.nil))) rfl rfl⟩
        · replace hv := if_f c183 hv
          refine Tri.run (G := gm_dec_TakeNum) tyOk mixed ?_
          conv => whnf
          refine Tri.run (G := gm_dec_TakeNum) tyOk mixed ?_
          conv => whnf
          obtain rfl := Option.some.inj hv
          exact ⟨_, rfl, weak_fin _ rfl rfl rfl (LeH.rest) (.cons (.one (.same rfl)) (.cons (.one (.same rfl)) (.nil))) rfl rfl⟩
    · replace hv := if_f c157 hv
      refine Tri.run (G := gm_dec_TakeNum) tyOk mixed ?_
      conv => whnf
      obtain rfl := Option.some.inj hv
      obtain rfl := r155 _ rfl
      exact ⟨rfl, weak_fin _ rfl rfl rfl (LeH.rest) (.cons (.one (.same rfl)) (.cons (.one (.same rfl)) (.nil))) rfl rfl⟩
  · rintro ex S' ⟨rfl, w184⟩
    conv => whnf
    refine Tri.weak w184 ?_
    refine Tri.seqK ?_
    refine Tri.seqK ?_
    refine Tri.run (G := gm_dec_TakeNum) tyOk mixed ?_
    conv => whnf
    refine Tri.cond rfl (fun c186 => ?_) (fun c186 => ?_)
    · replace h := if_t c186 h
      refine Tri.seqK ?_
      refine Tri.run (G := gm_dec_TakeNum) tyOk mixed ?_
      conv => whnf
      refine Tri.run (G := gm_dec_TakeNum) tyOk mixed ?_
      conv => whnf
      refine fin_here ?_
      conv => whnf
      obtain rfl := Option.some.inj h
      rfl
    · replace h := if_f c186 h
      refine Tri.run (G := gm_dec_TakeNum) tyOk mixed ?_
      conv => whnf
      refine Tri.seqK ?_
      refine Tri.run (G := gm_dec_TakeNum) tyOk mixed ?_
      conv => whnf
      replace h := need_some h
      obtain ⟨p187, h⟩ := h
      refine ⟨p187, ?_⟩
      conv => whnf
      refine ⟨⟨bs (cut s 0 y151), bs_cut _ _ _, ?_⟩⟩
      conv => whnf
      replace h := bind_some h
      obtain ⟨y188, q189, h⟩ := h
      refine PureP.mono (dec_told_walk (cut s 0 y151) y188 q189) ?_
      rintro _ rfl
      conv => whnf
      refine Tri.seqK ?_
      refine Tri.block ?_
      refine Tri.seqK ?_
      refine Tri.block ?_
      refine Tri.seqK ?_
      replace h := bind_some h
      obtain ⟨y879, q880, h⟩ := h
      refine Tri.cut (fun ex S' => (∃ v881 : Unit, y879 = (.inl v881) ∧ ex = .normal ∧ Weak S' ⟨68, 0, ofRegs [], []⟩) ∨ (∃ v882 : Unit, y879 = (.inr (.inl v882)) ∧ ex = (.exit 7) ∧ Weak S' ⟨68, 0, ofRegs [], []⟩) ∨ (∃ v883 : Unit, y879 = (.inr (.inr v883)) ∧ ex = (.exit 3) ∧ Weak S' ⟨68, 0, ofRegs [(0, .v (.string (bs s))), (5, .v (.int .i64 y151)), (6, .v (.int .u64 y188.1))], []⟩)) ?_ ?_
      · refine Tri.block ?_
        refine Tri.block ?_
        refine Tri.block ?_
        refine Tri.seqK ?_
        refine Tri.seqK ?_
        refine Tri.seqK ?_
        replace q880 := bind_some q880
        obtain ⟨y903, q904, q880⟩ := q880
        refine Tri.cut (fun ex S' => ex = .normal ∧ Weak S' ⟨68, 0, ofRegs [(0, .v (.string (bs s))), (5, .v (.int .i64 y151)), (6, .v (.int .u64 y188.1)), (7, .v (.bool y188.2)), (32, .v (.bool y903))], []⟩) ?_ ?_
        · refine Tri.run (G := gm_dec_TakeNum) tyOk mixed ?_
          conv => whnf
          refine cond_mk (fun c905 => ?_) (fun c905 => ?_)
          · replace q904 := if_t c905 q904
            conv => whnf
            replace q904 := bind_some q904
            obtain ⟨x906, q907, q904⟩ := q904
            refine ⟨bs_bound q907, ?_⟩
            conv => whnf
            refine ⟨⟨(x906.toNat : Int), bs_at q907, ?_⟩⟩
            conv => whnf
            obtain rfl := Option.some.inj q904
            exact ⟨rfl, weak_fin _ rfl rfl rfl (LeH.rest) (.cons (.one (.same rfl)) (.cons (.one (.same rfl)) (.cons (.one (.same rfl)) (.cons (.one (.same rfl)) (.cons (.one (.same rfl)) (.nil)))))) rfl rfl⟩
          · replace q904 := if_f c905 q904
            conv => whnf
            obtain rfl := Option.some.inj q904
            exact ⟨rfl, weak_fin _ rfl rfl rfl (LeH.rest) (.cons (.one (.same rfl)) (.cons (.one (.same rfl)) (.cons (.one (.same rfl)) (.cons (.one (.same rfl)) (.cons (.one (.same rfl)) (.nil)))))) rfl rfl⟩
        · rintro ex S' ⟨rfl, w908⟩
          conv => whnf
          refine Tri.weak w908 ?_
          refine Tri.cond rfl (fun c909 => ?_) (fun c909 => ?_)
          · replace q880 := if_t c909 q880
            refine Tri.run (G := gm_dec_TakeNum) tyOk mixed ?_
            conv => whnf
            obtain rfl := Option.some.inj q880
            exact Or.inl ⟨_, rfl, rfl, weak_fin _ rfl rfl rfl (LeH.rest) (.nil) rfl rfl⟩
          · replace q880 := if_f c909 q880
            refine Tri.run (G := gm_dec_TakeNum) tyOk mixed ?_
            conv => whnf
            refine Tri.seqK ?_
            refine Tri.seqK ?_
            refine Tri.run (G := gm_dec_TakeNum) tyOk mixed ?_
            conv => whnf
            refine Tri.cond rfl (fun c911 => ?_) (fun c911 => ?_)
            · replace q880 := if_t c911 q880
              refine Tri.run (G := gm_dec_TakeNum) tyOk mixed ?_
              conv => whnf
              obtain rfl := Option.some.inj q880
              exact Or.inl ⟨_, rfl, rfl, weak_fin _ rfl rfl rfl (LeH.rest) (.nil) rfl rfl⟩
            · replace q880 := if_f c911 q880
              refine Tri.run (G := gm_dec_TakeNum) tyOk mixed ?_
              conv => whnf
              refine Tri.seqK ?_
              refine Tri.seqK ?_
              replace q880 := bind_some q880
              obtain ⟨y936, q937, q880⟩ := q880
              refine Tri.cut (fun ex S' => ex = .normal ∧ Weak S' ⟨68, 0, ofRegs [(0, .v (.string (bs s))), (5, .v (.int .i64 y151)), (6, .v (.int .u64 y188.1)), (43, .v (.bool y936))], []⟩) ?_ ?_
              · refine Tri.run (G := gm_dec_TakeNum) tyOk mixed ?_
                conv => whnf
                refine ⟨⟨(s.length : Int), rfl, ?_⟩⟩
                conv => whnf
                refine cond_mk (fun c938 => ?_) (fun c938 => ?_)
                · replace q937 := if_t c938 q937
                  conv => whnf
                  refine cond_mk (fun c939 => ?_) (fun c939 => ?_)
                  · replace q937 := if_t c939 q937
                    conv => whnf
                    obtain rfl := Option.some.inj q937
                    exact ⟨rfl, weak_fin _ rfl rfl rfl (LeH.rest) (.cons (.one (.same rfl)) (.cons (.one (.same rfl)) (.cons (.one (.same rfl)) (.cons (.one (.same rfl)) (.nil))))) rfl rfl⟩
                  · replace q937 := if_f c939 q937
                    conv => whnf
                    replace q937 := bind_some q937
                    obtain ⟨x940, q941, q937⟩ := q937
                    refine ⟨bs_bound q941, ?_⟩
                    conv => whnf
                    refine ⟨⟨(x940.toNat : Int), bs_at q941, ?_⟩⟩
                    conv => whnf
                    obtain rfl := Option.some.inj q937
                    exact ⟨rfl, weak_fin _ rfl rfl rfl (LeH.rest) (.cons (.one (.same rfl)) (.cons (.one (.same rfl)) (.cons (.one (.same rfl)) (.cons (.one (.same rfl)) (.nil))))) rfl rfl⟩
                · replace q937 := if_f c938 q937
                  conv => whnf
                  obtain rfl := Option.some.inj q937
                  exact ⟨rfl, weak_fin _ rfl rfl rfl (LeH.rest) (.cons (.one (.same rfl)) (.cons (.one (.same rfl)) (.cons (.one (.same rfl)) (.cons (.one (.same rfl)) (.nil))))) rfl rfl⟩
              · rintro ex S' ⟨rfl, w942⟩
                conv => whnf
                refine Tri.weak w942 ?_
                refine Tri.cond rfl (fun c943 => ?_) (fun c943 => ?_)
                · replace q880 := if_t c943 q880
                  refine Tri.run (G := gm_dec_TakeNum) tyOk mixed ?_
                  conv => whnf
                  obtain rfl := Option.some.inj q880
                  exact Or.inl ⟨_, rfl, rfl, weak_fin _ rfl rfl rfl (LeH.rest) (.nil) rfl rfl⟩
                · replace q880 := if_f c943 q880
                  refine Tri.run (G := gm_dec_TakeNum) tyOk mixed ?_
                  conv => whnf
                  refine Tri.seqK ?_
                  refine Tri.run (G := gm_dec_TakeNum) tyOk mixed ?_
                  conv => whnf
                  refine ⟨⟨(s.length : Int), rfl, ?_⟩⟩
                  conv => whnf
                  refine Tri.cond rfl (fun c944 => ?_) (fun c944 => ?_)
                  · replace q880 := if_t c944 q880
                    refine Tri.run (G := gm_dec_TakeNum) tyOk mixed ?_
                    conv => whnf
                    obtain rfl := Option.some.inj q880
                    exact Or.inr (Or.inl ⟨_, rfl, rfl, weak_fin _ rfl rfl rfl (LeH.rest) (.nil) rfl rfl⟩)
                  · replace q880 := if_f c944 q880
                    refine Tri.run (G := gm_dec_TakeNum) tyOk mixed ?_
                    conv => whnf
                    refine Tri.run (G := gm_dec_TakeNum) tyOk mixed ?_
                    conv => whnf
                    obtain rfl := Option.some.inj q880
                    exact Or.inr (Or.inr (⟨_, rfl, rfl, weak_fin _ rfl rfl rfl (LeH.rest) (.cons (.one (.same rfl)) (.cons (.one (.same rfl)) (.cons (.one (.same rfl)) (.nil)))) rfl rfl⟩))
      · rintro ex S' (⟨v881, rfl, rfl, w945⟩ | ⟨v882, rfl, rfl, w945⟩ | ⟨v883, rfl, rfl, w945⟩)
        · dsimp only at h
          conv => whnf
          refine Tri.weak w945 ?_
          refine Tri.seqK ?_
          refine Tri.seqK ?_
          refine Tri.run (G := gm_dec_TakeNum) tyOk mixed ?_
          conv => whnf
          refine Tri.run (G := gm_dec_TakeNum) tyOk mixed ?_
          conv => whnf
          refine fin_here ?_
          conv => whnf
          obtain rfl := Option.some.inj h
          rfl
        · dsimp only at h
          conv => whnf
          refine Tri.weak w945 ?_
          refine Tri.seqK ?_
          refine Tri.seqK ?_
          refine Tri.run (G := gm_dec_TakeNum) tyOk mixed ?_
          conv => whnf
          refine Tri.run (G := gm_dec_TakeNum) tyOk mixed ?_
          conv => whnf
          refine fin_here ?_
          conv => whnf
          obtain rfl := Option.some.inj h
          rfl
        · dsimp only at h
          conv => whnf
          refine Tri.weak w945 ?_
          refine Tri.seqK ?_
          refine Tri.run (G := gm_dec_TakeNum) tyOk mixed ?_
          conv => whnf
          refine Draw.one 8 (.take 0 (.take 1 (.take 2 (.take 3 (.take 4 (.take 5 (.take 6 (.take 7 (.fin))))))))) [] (by kernel_rfl) ?_
          conv => whnf
          replace h := need_some h
          obtain ⟨p947, h⟩ := h
          refine ⟨p947, ?_⟩
          conv => whnf
          refine ⟨⟨bs (cut s (IntKind.i64.wrap (y151 + 1)) (s.length : Int)), bs_cut _ _ _, ?_⟩⟩
          conv => whnf
          refine Tri.run (G := gm_dec_TakeNum) tyOk mixed ?_
          conv => whnf
          refine fin_here ?_
          conv => whnf
          obtain rfl := Option.some.inj h
          rfl
noncomputable def dec_TakeText (s : Str) (most : Int) : Option (Str × Str × Int) :=
  (dec_TakeNum s).bind fun y1 =>
  if (!(decide (y1.2.2 = 0))) then
    some ([], [], y1.2.2)
  else
    if ((decide (most < 0)) || (decide (y1.1 > (IntKind.u64.wrap most)))) then
      some ([], [], 4)
    else
      if (decide (y1.1 > (IntKind.u64.wrap (y1.2.1.length : Int)))) then
        some ([], [], 2)
      else
        need (0 ≤ (0 : Int) ∧ 0 ≤ y1.1 ∧ y1.1 ≤ (y1.2.1.length : Int)) <|
        need (0 ≤ y1.1 ∧ y1.1 ≤ (y1.2.1.length : Int) ∧ (y1.2.1.length : Int) ≤ (y1.2.1.length : Int)) <|
        some ((cut y1.2.1 0 y1.1), (cut y1.2.1 y1.1 (y1.2.1.length : Int)), 0)
def gm_dec_TakeText : Gm := ⟨tys, [], [], []⟩
theorem dec_TakeText_walk (s : Str) (most : Int) (r : Str × Str × Int) (h : dec_TakeText s most = some r) : PureP Try.prog 73 [.v (.string (bs s)), .v (.int .i64 most)] (fun a => a = .tup [.v (.string (bs r.1)), .v (.string (bs r.2.1)), .v (.int .i64 r.2.2)]) := by
  unfold dec_TakeText at h
  refine pureW (G := gm_dec_TakeText) tyOk Try.func73 rfl (by kernel_rfl) (by simp [Try.f73]) ?_
  refine Tri.seqK ?_
  refine Tri.run (G := gm_dec_TakeText) tyOk mixed ?_
  conv => whnf
  refine Tri.seqK ?_
  refine Tri.run (G := gm_dec_TakeText) tyOk mixed ?_
  conv => whnf
  replace h := bind_some h
  obtain ⟨y1, q2, h⟩ := h
  refine PureP.mono (dec_TakeNum_walk s y1 q2) ?_
  rintro _ rfl
  conv => whnf
  refine Tri.seqK ?_
  refine Tri.block ?_
  refine Tri.seqK ?_
  refine Tri.run (G := gm_dec_TakeText) tyOk mixed ?_
  conv => whnf
  refine Tri.cond rfl (fun c11 => ?_) (fun c11 => ?_)
  · replace h := if_t c11 h
    refine Tri.seqK ?_
    refine Tri.run (G := gm_dec_TakeText) tyOk mixed ?_
    conv => whnf
    refine Tri.run (G := gm_dec_TakeText) tyOk mixed ?_
    conv => whnf
    refine fin_here ?_
    conv => whnf
    obtain rfl := Option.some.inj h
    rfl
  · replace h := if_f c11 h
    refine Tri.seqK ?_
    refine Tri.cut (fun ex S' => ex = .normal ∧ Weak S' ⟨41, 0, ofRegs [(7, .v (.int .u64 y1.1)), (8, .v (.string (bs y1.2.1))), (20, .v (.bool ((decide (most < 0)) || (decide (y1.1 > (IntKind.u64.wrap most))))))], []⟩) ?_ ?_
    · refine Tri.run (G := gm_dec_TakeText) tyOk mixed ?_
      conv => whnf
      refine cond_mk (fun c15 => ?_) (fun c15 => ?_)
      · replace c15 : (decide (most < 0)) = true := c15
        conv => whnf
        exact ⟨rfl, weak_fin _ rfl rfl rfl (LeH.rest) (.cons (.one (.same rfl)) (.cons (.one (.same rfl)) (.cons (.one (.same (show (.v (.bool true) : AV) = (.v (.bool ((decide (most < 0)) || (decide (y1.1 > (IntKind.u64.wrap most))))) : AV) from by first | (simp [c15]; done) | simp only [c15, Bool.or_true, Bool.true_or, Bool.false_or, Bool.or_false, Bool.and_true, Bool.true_and, Bool.and_false, Bool.false_and, Bool.not_true, Bool.not_false, if_true, if_false, Bool.false_eq_true]))) (.nil)))) rfl rfl⟩
      · replace c15 : (decide (most < 0)) = false := c15
        conv => whnf
        refine ⟨⟨(IntKind.u64.wrap most), rfl, ?_⟩⟩
        conv => whnf
        exact ⟨rfl, weak_fin _ rfl rfl rfl (LeH.rest) (.cons (.one (.same rfl)) (.cons (.one (.same rfl)) (.cons (.one (.same (show (.v (.bool (decide (y1.1 > (IntKind.u64.wrap most)))) : AV) = (.v (.bool ((decide (most < 0)) || (decide (y1.1 > (IntKind.u64.wrap most))))) : AV) from by first | (simp [c15]; done) | simp only [c15, Bool.or_true, Bool.true_or, Bool.false_or, Bool.or_false, Bool.and_true, Bool.true_and, Bool.and_false, Bool.false_and, Bool.not_true, Bool.not_false, if_true, if_false, Bool.false_eq_true]))) (.nil)))) rfl rfl⟩
    · rintro ex S' ⟨rfl, w16⟩
      conv => whnf
      refine Tri.weak w16 ?_
      refine Tri.cond rfl (fun c17 => ?_) (fun c17 => ?_)
      · replace h := if_t c17 h
        refine Tri.seqK ?_
        refine Tri.run (G := gm_dec_TakeText) tyOk mixed ?_
        conv => whnf
        refine Tri.run (G := gm_dec_TakeText) tyOk mixed ?_
        conv => whnf
        refine fin_here ?_
        conv => whnf
        obtain rfl := Option.some.inj h
        rfl
      · replace h := if_f c17 h
        refine Tri.seqK ?_
        refine Tri.run (G := gm_dec_TakeText) tyOk mixed ?_
        conv => whnf
        refine ⟨⟨(y1.2.1.length : Int), rfl, ?_⟩⟩
        conv => whnf
        refine ⟨⟨(IntKind.u64.wrap (y1.2.1.length : Int)), rfl, ?_⟩⟩
        conv => whnf
        refine Tri.cond rfl (fun c18 => ?_) (fun c18 => ?_)
        · replace h := if_t c18 h
          refine Tri.seqK ?_
          refine Tri.run (G := gm_dec_TakeText) tyOk mixed ?_
          conv => whnf
          refine Tri.run (G := gm_dec_TakeText) tyOk mixed ?_
          conv => whnf
          refine fin_here ?_
          conv => whnf
          obtain rfl := Option.some.inj h
          rfl
        · replace h := if_f c18 h
          refine Tri.run (G := gm_dec_TakeText) tyOk mixed ?_
          conv => whnf
          refine Tri.seqK ?_
          refine Tri.run (G := gm_dec_TakeText) tyOk mixed ?_
          conv => whnf
          refine Draw.one 9 (.take 0 (.take 1 (.take 2 (.take 3 (.take 4 (.take 5 (.take 6 (.take 7 (.take 8 (.fin)))))))))) [] (by kernel_rfl) ?_
          conv => whnf
          replace h := need_some h
          obtain ⟨p21, h⟩ := h
          refine ⟨p21, ?_⟩
          conv => whnf
          refine ⟨⟨bs (cut y1.2.1 0 y1.1), bs_cut _ _ _, ?_⟩⟩
          conv => whnf
          replace h := need_some h
          obtain ⟨p22, h⟩ := h
          refine ⟨p22, ?_⟩
          conv => whnf
          refine ⟨⟨bs (cut y1.2.1 y1.1 (y1.2.1.length : Int)), bs_cut _ _ _, ?_⟩⟩
          conv => whnf
          refine Tri.run (G := gm_dec_TakeText) tyOk mixed ?_
          conv => whnf
          refine fin_here ?_
          conv => whnf
          obtain rfl := Option.some.inj h
          rfl
noncomputable def sum_Open (f : Str) (most : Int) : Option (Str × Str × Int) :=
  (dec_TakeText f most).bind fun y1 =>
  if (!(decide (y1.2.2 = 0))) then
    some ([], [], y1.2.2)
  else
    (dec_TakeNum y1.2.1).bind fun y5 =>
    if (!(decide (y5.2.2 = 0))) then
      some ([], [], y5.2.2)
    else
      (sum_Of y1.1).bind fun y12 =>
      if (!(decide (y5.1 = (IntKind.u64.wrap y12)))) then
        some ([], [], 10)
      else
        some (y1.1, y5.2.1, 0)
def gm_sum_Open : Gm := ⟨tys, [], [], []⟩
theorem sum_Open_walk (f : Str) (most : Int) (r : Str × Str × Int) (h : sum_Open f most = some r) : PureP Try.prog 55 [.v (.string (bs f)), .v (.int .i64 most)] (fun a => a = .tup [.v (.string (bs r.1)), .v (.string (bs r.2.1)), .v (.int .i64 r.2.2)]) := by
  unfold sum_Open at h
  refine pureW (G := gm_sum_Open) tyOk Try.func55 rfl (by kernel_rfl) (by simp [Try.f55]) ?_
  refine Tri.seqK ?_
  refine Tri.run (G := gm_sum_Open) tyOk mixed ?_
  conv => whnf
  refine Tri.seqK ?_
  refine Tri.run (G := gm_sum_Open) tyOk mixed ?_
  conv => whnf
  replace h := bind_some h
  obtain ⟨y1, q2, h⟩ := h
  refine PureP.mono (dec_TakeText_walk f most y1 q2) ?_
  rintro _ rfl
  conv => whnf
  refine Tri.seqK ?_
  refine Tri.seqK ?_
  refine Tri.run (G := gm_sum_Open) tyOk mixed ?_
  conv => whnf
  refine Tri.cond rfl (fun c4 => ?_) (fun c4 => ?_)
  · replace h := if_t c4 h
    refine Tri.seqK ?_
    refine Tri.run (G := gm_sum_Open) tyOk mixed ?_
    conv => whnf
    refine Tri.run (G := gm_sum_Open) tyOk mixed ?_
    conv => whnf
    refine fin_here ?_
    conv => whnf
    obtain rfl := Option.some.inj h
    rfl
  · replace h := if_f c4 h
    refine Tri.run (G := gm_sum_Open) tyOk mixed ?_
    conv => whnf
    refine Tri.seqK ?_
    refine Tri.run (G := gm_sum_Open) tyOk mixed ?_
    conv => whnf
    replace h := bind_some h
    obtain ⟨y5, q6, h⟩ := h
    refine PureP.mono (dec_TakeNum_walk y1.2.1 y5 q6) ?_
    rintro _ rfl
    conv => whnf
    refine Tri.seqK ?_
    refine Tri.block ?_
    refine Tri.seqK ?_
    refine Tri.run (G := gm_sum_Open) tyOk mixed ?_
    conv => whnf
    refine Tri.cond rfl (fun c11 => ?_) (fun c11 => ?_)
    · replace h := if_t c11 h
      refine Tri.seqK ?_
      refine Tri.run (G := gm_sum_Open) tyOk mixed ?_
      conv => whnf
      refine Tri.run (G := gm_sum_Open) tyOk mixed ?_
      conv => whnf
      refine fin_here ?_
      conv => whnf
      obtain rfl := Option.some.inj h
      rfl
    · replace h := if_f c11 h
      refine Tri.seqK ?_
      refine Tri.run (G := gm_sum_Open) tyOk mixed ?_
      conv => whnf
      replace h := bind_some h
      obtain ⟨y12, q13, h⟩ := h
      refine PureP.mono (sum_Of_walk y1.1 y12 q13) ?_
      rintro _ rfl
      conv => whnf
      refine ⟨⟨(IntKind.u64.wrap y12), rfl, ?_⟩⟩
      conv => whnf
      refine Tri.cond rfl (fun c14 => ?_) (fun c14 => ?_)
      · replace h := if_t c14 h
        refine Tri.seqK ?_
        refine Tri.run (G := gm_sum_Open) tyOk mixed ?_
        conv => whnf
        refine Tri.run (G := gm_sum_Open) tyOk mixed ?_
        conv => whnf
        refine fin_here ?_
        conv => whnf
        obtain rfl := Option.some.inj h
        rfl
      · replace h := if_f c14 h
        refine Tri.run (G := gm_sum_Open) tyOk mixed ?_
        conv => whnf
        refine Tri.seqK ?_
        refine Tri.run (G := gm_sum_Open) tyOk mixed ?_
        conv => whnf
        refine Tri.run (G := gm_sum_Open) tyOk mixed ?_
        conv => whnf
        refine fin_here ?_
        conv => whnf
        obtain rfl := Option.some.inj h
        rfl
section
open Go.RowKit Go.Shelf
attribute [local go_sem] Oper.semAt_some
/-! ### wal.Scan: a range over a function -/
noncomputable def wal_Scan_l1 (s : Str) (a1 : List Str) (a2 : Int) (a3 : Str) : Option ((List Str × Int × Str) ⊕ (List Str × Int)) :=
  (sum_Open a3 2048).bind fun y =>
  if (!(decide (y.2.2 = 0))) then some (.inr (a1, a2)) else
  need ((a1.length + 1) * 16 ≤ 140737488355328) <|
  some (.inl ((a1 ++ [y.1]), IntKind.i64.wrap ((s.length : Int) - (y.2.1.length : Int)), y.2.1))
noncomputable def wal_Scan (s : Str) : Option (List Str × Int) :=
  (loop (fun (s1 : List Str × Int × Str) => wal_Scan_l1 s s1.1 s1.2.1 s1.2.2) (([] : List Str), (0 : Int), s))
inductive ScanR (s : Str) : Str → List (Int × Str) → Prop
  | stop {rest y} (h : sum_Open rest 2048 = some y) (hy : y.2.2 ≠ 0) : ScanR s rest []
  | next {rest y xs} (h : sum_Open rest 2048 = some y) (hy : y.2.2 = 0) (r : ScanR s y.2.1 xs) : ScanR s rest ((IntKind.i64.wrap ((s.length : Int) - (y.2.1.length : Int)), y.1) :: xs)
theorem ScanR.unique {s : Str} : ∀ {rest : Str} {xs ys : List (Int × Str)}, ScanR s rest xs → ScanR s rest ys → xs = ys
  | _, _, _, .stop h hy, .stop h2 hy2 => rfl
  | _, _, _, .stop h hy, .next h2 hy2 _ => by rw [h] at h2; cases h2; exact absurd hy2 hy
  | _, _, _, .next h hy _, .stop h2 hy2 => by rw [h] at h2; cases h2; exact absurd hy hy2
  | _, _, _, .next h hy r, .next h2 hy2 r2 => by rw [h] at h2; cases h2; rw [ScanR.unique r r2]
def lastAt (g : Int) (xs : List (Int × Str)) : Int := xs.foldl (fun _ p => p.1) g
theorem lastAt_snoc (g : Int) (xs : List (Int × Str)) (x : Int × Str) : lastAt g (xs ++ [x]) = x.1 := by simp [lastAt]
theorem scan_runs (s : Str) : ∀ (n : Nat) (l : List Str) (g : Int) (rest : Str) (r : List Str × Int), loopN (fun (s1 : List Str × Int × Str) => wal_Scan_l1 s s1.1 s1.2.1 s1.2.2) n (l, g, rest) = some r →
    ∃ xs, ScanR s rest xs ∧ r = (l ++ xs.map (·.2), lastAt g xs) ∧ (xs ≠ [] → (l.length + xs.length) * 16 ≤ 140737488355328) := by
  intro n
  induction n with
  | zero => intro l g rest r h; simp [loopN] at h
  | succ n ih =>
    intro l g rest r h
    unfold loopN at h
    simp only at h
    cases hz : wal_Scan_l1 s l g rest with
    | none => rw [hz] at h; cases h
    | some z =>
    rw [hz] at h
    unfold wal_Scan_l1 at hz
    obtain ⟨y, hy, hz⟩ := bind_some hz
    by_cases he : y.2.2 = 0
    · rw [if_neg (by simp [he])] at hz
      obtain ⟨hb, hz⟩ := need_some hz
      obtain rfl := Option.some.inj hz
      obtain ⟨xs, h1, h2, h3⟩ := ih _ _ _ _ h
      refine ⟨_, .next hy he h1, ?_, fun _ => ?_⟩
      · rw [h2]; simp [lastAt]
      · by_cases hx : xs = []
        · subst hx; simpa using hb
        · have := h3 hx; simp at this ⊢; omega
    · rw [if_pos (by simp [he])] at hz
      obtain rfl := Option.some.inj hz
      obtain rfl := Option.some.inj h
      exact ⟨[], .stop hy he, by simp [lastAt], fun h => absurd rfl h⟩
open Classical in
noncomputable def scanLeft (s : Str) (v : Value) : Nat :=
  if h : ∃ r : Str × List (Int × Str), v = .string (bs r.1) ∧ ScanR s r.1 r.2 then (Classical.choose h).2.length else 0
theorem scanLeft_eq {s rest : Str} {xs : List (Int × Str)} (h : ScanR s rest xs) : scanLeft s (.string (bs rest)) = xs.length := by
  have hex : ∃ r : Str × List (Int × Str), Value.string (bs rest) = .string (bs r.1) ∧ ScanR s r.1 r.2 := ⟨(rest, xs), rfl, h⟩
  unfold scanLeft
  rw [dif_pos hex]
  obtain ⟨e, hl⟩ := Classical.choose_spec hex
  injection e with e
  rw [← bs_inj e] at hl
  rw [ScanR.unique hl h]
theorem open_calls {f : Str} {y : Str × Str × Int} (h : sum_Open f 2048 = some y) (w : World) : Calls Try.prog 55 #[.string (bs f), .int .i64 2048] w fun en w' => en = .returned (.tuple #[.string (bs y.1), .string (bs y.2.1), .int .i64 y.2.2]) ∧ w.grownBy w' none :=
  (sum_Open_walk f 2048 y h).calls rfl rfl w
set_option maxRecDepth 100000 in
set_option maxHeartbeats 2000000 in
theorem each1_in (l B B0 : Nat) (s : Str) (xs : List (Int × Str)) (J Jx : List (Int × Str) → World → Prop) (hJ : AbidesFrom B0 J)
    (hY : ∀ pre x W, J pre W → pre.length < xs.length → YieldAt Fence.wide 4 Try.prog l #[.int .i64 x.1, .string (bs x.2)] W fun e W' =>
      (e = .returned (.bool true) ∧ J (pre ++ [x]) W' ∧ KeepBox B 9 W W') ∨ (e = .returned (.bool false) ∧ Jx (pre ++ [x]) W'))
    (W : World) (hBn : Boxed W B 9 (.string (bs s))) (hx : ScanR s s xs) (h0 : J [] W) :
    CallsIn Fence.wide 5 Try.prog 54 #[.func (.yield l) #[] #[], .pointer (some ⟨B, 0, none⟩)] W fun e W' => (∃ v, e = .returned v) ∧
      ((∃ ys, ys = xs ∧ J ys W') ∨ (∃ pre, pre <+: xs ∧ Jx pre W')) := by
  refine callsIn_of_wp Try.func54 rfl trivial ?_ rfl
  simp only [Try.ntmps54, List.size_toArray, List.length_cons, List.length_nil, Nat.reduceAdd, Nat.reduceSub, Array.replicate_succ, Array.replicate_zero, List.push_toArray, List.append_toArray, List.nil_append, List.cons_append]
  have hBc := hBn.cell
  gi_wp2
  gi_loopw [3] (fun p wr => ∃ (pre rest : List (Int × Str)) (q : Str), p = .string (bs q) ∧ xs = pre ++ rest ∧ ScanR s q rest ∧ J pre wr ∧ Boxed wr B 9 (.string (bs s)))
    (fun p wr => scanLeft s p)
  case atStart =>
    exact ⟨[], xs, s, rfl, rfl, hx, h0, hBn⟩
  case round =>
    obtain ⟨pre, rest, q, rfl, hx, hl, hJs, hb⟩ := hrel
    have hc := hb.cell
    cases hl with
    | stop h hy =>
      have ho := open_calls h
      gi_wp2_with (refine ⟨trivial, ?_⟩; gi_at_call 55; refine (callsIn_wide.2 (ho _)).mono ?_; rintro e w' ⟨rfl, hg⟩)
      refine bodyPost_ret (results_none rfl _ _ _) rfl ?_
      exact ⟨⟨_, rfl⟩, .inl ⟨pre, by simp [hx], hJ pre wr w' none hJs hg (fun _ h => by cases h)⟩⟩
    | @next _ y xs' h hy hr =>
      have ho := open_calls h
      gi_wp2
      refine ⟨trivial, ?_⟩
      gi_at_call 55
      refine (callsIn_wide.2 (ho _)).mono ?_
      rintro e w' ⟨rfl, hg⟩
      have hb' := hb.kept hg (by simp)
      have hc' := hb'.cell
      obtain ⟨fn, tmps, assign, body, hyy, hR⟩ := hY pre (IntKind.i64.wrap ((s.length : Int) - (y.2.1.length : Int)), y.1) w' (hJ pre wr w' none hJs hg (fun _ h => by cases h)) (by rw [hx]; simp)
      replace hyy : (Instr.yield l #[.int .i64 (wrap64 (((bs s).size : Int) - ((bs y.2.1).size : Int))), .string (bs y.1)]).run Try.prog w' = .ok (.round l fn tmps assign body) w' := by rw [← Go.IntWalk.i64_left]; exact hyy
      gi_wp2
      refine hR.mono ?_
      rintro e W3 (⟨rfl, hJ3, hk3⟩ | ⟨rfl, hJx3⟩)
      · gi_wp2
        go_roundw
        case rel => exact ⟨pre ++ [(IntKind.i64.wrap ((s.length : Int) - (y.2.1.length : Int)), y.1)], xs', y.2.1, rfl, by simp [hx], hr, hJ3, hk3 _ hb'⟩
        case measure => rw [scanLeft_eq hr, scanLeft_eq (.next h hy hr)]; simp
      · gi_wp2
        refine bodyPost_ret (results_none rfl _ _ _) rfl ?_
        exact ⟨⟨_, rfl⟩, .inr ⟨pre ++ [(IntKind.i64.wrap ((s.length : Int) - (y.2.1.length : Int)), y.1)], ⟨xs', by simp [hx]⟩, hJx3⟩⟩
set_option maxRecDepth 100000 in
set_option maxHeartbeats 1000000 in
theorem each_in (s : Str) (w : World) :
    CallsIn Fence.wide 5 Try.prog 33 #[.string (bs s)] w fun e w' => e = .returned (.func (.func 54) #[] #[.pointer (some ⟨w.heap.size, 0, none⟩)]) ∧ w' = w.alloc (.cells #[.string (bs s)] 9) := by
  refine callsIn_of_wp Try.func33 rfl trivial ?_ rfl
  simp only [Try.ntmps33, List.size_toArray, List.length_cons, List.length_nil, Nat.reduceAdd, Nat.reduceSub, Array.replicate_succ, Array.replicate_zero, List.push_toArray, List.append_toArray, List.nil_append, List.cons_append]
  gi_wp2
  go_ret
  exact ⟨rfl, rfl⟩
theorem each_stops (B : Nat) (s : Str) (xs : List (Int × Str)) (w : World) (hc : Boxed w B 9 (.string (bs s))) (hx : ScanR s s xs) :
    SeqStopsK Fence.wide 5 Try.prog 54 #[.pointer (some ⟨B, 0, none⟩)] (fun x : Int × Str => #[Value.int .i64 x.1, .string (bs x.2)]) (KeepBox B 9) (fun ys => ys = xs) (fun pre => pre <+: xs) xs.length w := fun l J Jx W hW hJ _ hY h0 =>
  each1_in l B W.heap.size s xs J Jx hJ hY W ((hW.block B hc.lt).trans hc) hx h0
theorem scan_info : (Try.prog.info? 9).map (fun i => (i.zero, i.size, i.bytes)) = some (some (.string ByteArray.empty), 1, 16) := by kernel_rfl
set_option maxRecDepth 100000 in
set_option maxHeartbeats 4000000 in
theorem scanIn (s : Str) (xs : List (Int × Str)) (hx : ScanR s s xs) (hbytes : xs.length * 16 ≤ 140737488355328) (w : World) :
    CallsIn Fence.wide 6 Try.prog 12 #[.string (bs s)] w fun e W' => ∃ v, e = .returned (.tuple #[v, .int .i64 (lastAt 0 xs)]) ∧ W'.ownsRow w.heap.size 9 1 v xs.length (xs.map fun x => Value.string (bs x.2)) ∧ Below w.heap.size w W' := by
  have h1 : 1 ≤ 6 := by omega
  obtain ⟨i0, hi, hz0, hz1, hz2⟩ := info_parts scan_info
  refine callsIn_of_wp_marks Try.func12 rfl trivial ?_ rfl
  simp only [Try.ntmps12, List.size_toArray, List.length_cons, List.length_nil, Nat.reduceAdd, Nat.reduceSub, Array.replicate_succ, Array.replicate_zero, List.push_toArray, List.append_toArray, List.nil_append, List.cons_append]
  gi_wp2_with (refine ⟨trivial, ?_⟩; gi_at_call 33; refine (each_in s _).mono ?_; rintro e w' ⟨rfl, rfl⟩)
  have bO := Boxed.new w 23 (.slice none 0 0)
  have bG := Boxed.new (w.alloc (.cells #[.slice none 0 0] 23)) 3 (.int .i64 0)
  rw [World.size_alloc] at bG
  have bN := Boxed.new ((w.alloc (.cells #[.slice none 0 0] 23)).alloc (.cells #[.int .i64 0] 3)) 9 (.string (bs s))
  rw [World.size_alloc, World.size_alloc] at bN
  have hB0 : Below w.heap.size w (((w.alloc (.cells #[.slice none 0 0] 23)).alloc (.cells #[.int .i64 0] 3)).alloc (.cells #[.string (bs s)] 9)) := (((Below.refl _ w).alloc (Nat.le_refl _) _).alloc (by simp) _).alloc (by simp; omega) _
  refine wpIn_rangeFunc_ownG rfl h1 (gf := 54) (lb := #[.pointer (some ⟨w.heap.size + 1 + 1, 0, none⟩)]) rfl trivial (enters_of Try.func54 (by kernel_rfl) rfl)
    (each_stops (w.heap.size + 1 + 1) s xs _ bN hx) keepBox_t keepBox_b (Below.refl _ _) (fun _ => rfl)
    (fun (pre : List (Int × Str)) W => (∃ v, Boxed W w.heap.size 23 v ∧ W.ownsRow (w.heap.size + 1 + 1 + 1) 9 1 v pre.length (pre.map fun x => Value.string (bs x.2)) ∧ True) ∧ Boxed W (w.heap.size + 1) 3 (.int .i64 (lastAt 0 pre)) ∧ Boxed W (w.heap.size + 1 + 1) 9 (.string (bs s)) ∧ Below w.heap.size w W)
    (fun _ _ _ => False)
    (OwnFrom.and (Own.from (holdsRow_own (w.heap.size + 1 + 1 + 1) w.heap.size 23 9 1 (fun (pre : List (Int × Str)) => pre.length) (fun (pre : List (Int × Str)) => pre.map fun x => Value.string (bs x.2)) (fun _ _ => True)) _)
      (OwnFrom.and (Own.from (fun s X Y row h hg hr => h.kept hg (fun e' => by obtain ⟨o, ho, hc⟩ := hr _ e'.symm; rw [show X.heap[_]? = _ from h] at ho; cases ho; cases hc)) _)
        (OwnFrom.and (Own.from (fun s X Y row h hg hr => h.kept hg (fun e' => by obtain ⟨o, ho, hc⟩ := hr _ e'.symm; rw [show X.heap[_]? = _ from h] at ho; cases ho; cases hc)) _)
          (ownFrom_below (Nat.le_refl _) (by simp; omega)))))
    (fun _ _ _ _ _ hs _ _ => hs)
    ⟨⟨_, (bO.alloc _).alloc _, World.ownsRow_nil _ _ _ _, trivial⟩, bG.alloc _, bN, hB0⟩
    (fun x => { tmps := #[.string (bs s), undef, .slice none 0 0, .int .i64 0, .pointer (some ⟨w.heap.size, 0, none⟩), .pointer (some ⟨w.heap.size + 1, 0, none⟩), .int .i64 x.1, .string (bs x.2), .string (bs s), .func (.func 54) #[] #[.pointer (some ⟨w.heap.size + 1 + 1, 0, none⟩)], .int .i64 x.1, .string (bs x.2), undef, undef, undef, undef, undef, undef, undef], defers := [] }) ?assign ?body ?done ?stop
  case assign =>
    intro l x W K hK
    gi_wp2
    exact hK
  case body =>
    rintro l pre x W ⟨⟨v, hv, hrow, _⟩, hg, hn, hB⟩ hlt
    have hc := hv.cell
    have hcg := hg.cell
    have hm1 : pre.length + 1 ≤ maxLen := by unfold maxLen; omega
    have hm2 : (pre.length + 1) * 16 ≤ 140737488355328 := by omega
    have hlo := hn.lt
    gi_wp2_with (gi_at_builtin; refine wpListIn_append_own _ rfl _ _ 23 rfl (w.heap.size + 1 + 1 + 1) 9 i0 (.string ByteArray.empty) 1 16 Try.underlying23 hi hz0 hz1 hz2 rfl (by decide) _ _ _ rfl (hrow.alloc _) ⟨W.heap.size, 0, none⟩ 1 1 [.string (bs x.2)] rfl rfl (cell_one_new _ _ _) (by simp [Value.oneCell']) hm1 hm2 (by simp; omega) ?_; intro v' w1 hown' hgrow _; obtain ⟨g', cap', rfl⟩ := ownsRow_succ hown'; obtain ⟨hv1, hv2, hr2, hk2, hb2⟩ := hv.appended (by decide) (row_base hrow (by omega : w.heap.size ≤ _)) hB.size (Nat.le_refl _) (row_base hown' (by omega)) hgrow; have hc1 := hv1.cell; have hf1 := hv1.frozen; have hg1 : Boxed w1 (w.heap.size + 1) 3 (.int .i64 (lastAt 0 pre)) := (hg.alloc _).kept hgrow (hg.not_row (by decide) hrow); have hg2 := hg1.kept (grownBy_setCell' w1 w.heap.size (.slice (some ⟨g', 0, none⟩) (pre.length + 1) cap')) (by simp); have hcg2 := hg2.cell; have hfg2 := hg2.frozen)
    have hn2 : KeepBox (w.heap.size + 1 + 1) 9 W ((w1.setCell ⟨w.heap.size, 0, none⟩ (.slice (some ⟨g', 0, none⟩) (pre.length + 1) cap')).setCell ⟨w.heap.size + 1, 0, none⟩ (.int .i64 x.1)) := fun u hu =>
      ((((hu.alloc _).kept hgrow (row_far hrow (by omega))).kept (grownBy_setCell' w1 w.heap.size _) (by simp; omega)).kept (grownBy_setCell' _ (w.heap.size + 1) _) (by simp))
    have hr3 : ((w1.setCell ⟨w.heap.size, 0, none⟩ (.slice (some ⟨g', 0, none⟩) (pre.length + 1) cap')).setCell ⟨w.heap.size + 1, 0, none⟩ (.int .i64 x.1)).ownsRow (w.heap.size + 1 + 1 + 1) 9 1 (.slice (some ⟨g', 0, none⟩) (pre.length + 1) cap') (pre.length + 1) (pre.map (fun x => Value.string (bs x.2)) ++ [.string (bs x.2)]) :=
      (hown'.kept (grownBy_setCell' w1 w.heap.size _) (.inr (row_far hown' (by omega)).symm)).kept (grownBy_setCell' _ (w.heap.size + 1) _) (.inr (row_far hown' (by omega)).symm)
    refine ⟨(hk2.trans (KeepsOthers.setCell _ _ _)).from _, hn2, ⟨_, hv2.kept (grownBy_setCell' _ (w.heap.size + 1) _) (by simp), by simpa using hr3, trivial⟩, ?_, hn2 _ hn, (hB.trans hb2).setCell (p := ⟨w.heap.size + 1, 0, none⟩) (by simp) _⟩
    rw [lastAt_snoc]
    exact hg2.set _
  case done =>
    rintro D ys W hD rfl ⟨⟨v, hv, hrow, _⟩, hg, hn, hB⟩ hK
    have hc := hv.cell
    have hcg := hg.cell
    gi_wp2
    gi_region
    all_goals gi_wp2
    have hK' : W.drew.heap[D]? = some (.deferred (some [])) := hK
    have hrow' : W.drew.ownsRow (w.heap.size + 1 + 1 + 1) 9 1 v ys.length (ys.map fun x => Value.string (bs x.2)) := hrow
    refine ⟨by simp, .inl ⟨_, _, rfl, run_takeDeferred hK', ?_⟩⟩
    refine ⟨_, ?_, v, rfl, row_base (ownsRow_putObj hrow' _ hK' rfl) (by omega), hB.drew.trans (belowK_b (w := w) (Nat.le_refl _) W.drew D _ _ (by simp at hD; omega) hK' rfl rfl)⟩
    exact results_tmp2 (fn := Try.f12) (t := 2) (u := 3) rfl _ _ _
  case stop =>
    rintro D c pre W _ _ h _
    exact h.elim
theorem wal_Scan_walk (s : Str) (r : List Str × Int) (h : wal_Scan s = some r) : PureP Try.prog 12 [.v (.string (bs s))] (fun a => a = .tup [.sl (List.map encS r.1), .v (.int .i64 r.2)]) := by
  refine ⟨⟨_, Try.func12, by simp [Try.f12], by simp [Try.f12]⟩, fun w F vs hb hv => ?_⟩
  obtain ⟨n, hn⟩ := loop_iff.1 h
  obtain ⟨xs, h1, h2, h3⟩ := scan_runs s n [] 0 s r hn
  have hvs : vs = #[.string (bs s)] := list_of_cells [.v (.string (bs s))] vs [.string (bs s)] hv.1 rfl (fun j hj => by
    have hj0 : j = 0 := by simpa using hj
    subst hj0
    exact (hv.2 0 _ rfl).v_inv)
  rw [hvs]
  have hbytes : xs.length * 16 ≤ 140737488355328 := by
    by_cases hx : xs = []
    · subst hx; simp
    · simpa using h3 hx
  refine (callsIn_wide.1 (scanIn s xs h1 hbytes w)).mono ?_
  rintro en w' ⟨v, rfl, hrow, hB⟩
  have hr1 : r.1 = xs.map (·.2) := by rw [h2]; simp
  have hr2 : r.2 = lastAt 0 xs := by rw [h2]
  have hown : ∀ b, v.ownBlock = some b → w.heap.size ≤ b ∧ b < w'.heap.size := by
    intro b hb
    rcases hrow.2 with ⟨rfl, _⟩ | ⟨g, cap, cur, rfl, hg, hblk, _⟩
    · cases hb
    · injection hb with hb
      subst hb
      exact ⟨hg, (Array.getElem?_eq_some_iff.1 hblk).1⟩
  refine ⟨_, _, fun b => F b ∨ v.ownBlock = some b, rfl, rfl, ?_, fun b h => .inl h, fun b h => ?_, fun b h => ?_, ⟨hB.os, hB.tape, hB.output, hB.size, fun k hk _ => hB.block k hk⟩⟩
  · refine .tup rfl (fun j a hj => ?_)
    match j, hj with
    | 0, hj =>
      injection hj with hj
      subst hj
      have := rep_of_row (F := fun b => F b ∨ v.ownBlock = some b) (e := Env.nil) hrow (xs := (xs.map (·.2)).map fun s => AV.v (.string (bs s))) (by rw [concs_strs]; simp) (by simp [ones, AV.one, Value.oneCell']) (fun b h => .inr h)
      rw [hr1]
      simpa [encS, Function.comp_def] using this
    | 1, hj =>
      injection hj with hj
      subst hj
      rw [hr2]
      exact .v
  · rcases h with h | h
    · exact .inl h
    · exact .inr (hown b h).1
  · rcases h with h | h
    · exact Nat.lt_of_lt_of_le (hb b h) hB.size
    · exact (hown b h).2
end
noncomputable def disk_change (d : Disk) : Option (Disk × Bool) :=
  (
    if (decide (d.Fuse = 0)) then
      some (.inr ())
    else
      if (decide (d.Fuse > 0)) then
        some (.inl (IntKind.i64.wrap (d.Fuse - 1)))
      else
        some (.inl d.Fuse)).bind fun (y5 : (Int) ⊕ (Unit)) =>
  match y5 with
  | (.inl v7) =>
    some (({ Files := d.Files, Room := d.Room, Fuse := v7, Off := d.Off } : Disk), true)
  | (.inr v8) =>
    some (({ Files := d.Files, Room := d.Room, Fuse := d.Fuse, Off := true } : Disk), false)
def gm_disk_change : Gm := ⟨tys, [], [], []⟩
theorem disk_change_walk (d : Disk) (r : Disk × Bool) (h : disk_change d = some r) : PureP Try.prog 69 [.agg [.sl (List.map encFile d.Files), .v (.int .i64 d.Room), .v (.int .i64 d.Fuse), .v (.bool d.Off)]] (fun a => a = .tup [.agg [.sl (List.map encFile r.1.Files), .v (.int .i64 r.1.Room), .v (.int .i64 r.1.Fuse), .v (.bool r.1.Off)], .v (.bool r.2)]) := by
  unfold disk_change at h
  refine pureW (G := gm_disk_change) tyOk Try.func69 rfl (by kernel_rfl) (by simp [Try.f69]) ?_
  refine Tri.seqK ?_
  refine Tri.run (G := gm_disk_change) tyOk mixed ?_
  conv => whnf
  refine Tri.seqK ?_
  replace h := bind_some h
  obtain ⟨y5, q6, h⟩ := h
  refine Tri.cut (fun ex S' => (∃ v7 : Int, y5 = (.inl v7) ∧ ex = .normal ∧ Weak S' ⟨19, 0, ofRegs [(1, .ptr 0 0), (2, .ptr 1 0)], [.var 31 [.sl (List.map encFile d.Files), .v (.int .i64 d.Room), .v (.int .i64 v7), .v (.bool d.Off)], .var 31 [.v (.slice none 0 0), .v (.int .i64 0), .v (.int .i64 0), .v (.bool false)]]⟩) ∨ (∃ v8 : Unit, y5 = (.inr v8) ∧ ex = .ret ∧ Weak S' ⟨19, 0, ofRegs [(2, .ptr 1 0), (3, .v (.bool false))], [.gone, .var 31 [.sl (List.map encFile d.Files), .v (.int .i64 d.Room), .v (.int .i64 d.Fuse), .v (.bool true)]]⟩)) ?_ ?_
  · refine Tri.block ?_
    refine Tri.seqK ?_
    refine Tri.run (G := gm_disk_change) tyOk mixed ?_
    conv => whnf
    refine Tri.cond rfl (fun c9 => ?_) (fun c9 => ?_)
    · replace q6 := if_t c9 q6
      refine Tri.seqK ?_
      refine Tri.run (G := gm_disk_change) tyOk mixed ?_
      conv => whnf
      refine Tri.seqK ?_
      refine Tri.run (G := gm_disk_change) tyOk mixed ?_
      conv => whnf
      refine Tri.run (G := gm_disk_change) tyOk mixed ?_
      conv => whnf
      obtain rfl := Option.some.inj q6
      exact Or.inr (⟨_, rfl, rfl, weak_fin _ rfl rfl rfl (.cons (.gone) (.cons (.same rfl) (LeH.rest))) (.cons (.one (.same rfl)) (.cons (.one (.same rfl)) (.nil))) rfl rfl⟩)
    · replace q6 := if_f c9 q6
      refine Tri.seqK ?_
      refine Tri.run (G := gm_disk_change) tyOk mixed ?_
      conv => whnf
      refine Tri.cond rfl (fun c10 => ?_) (fun c10 => ?_)
      · replace q6 := if_t c10 q6
        refine Tri.run (G := gm_disk_change) tyOk mixed ?_
        conv => whnf
        obtain rfl := Option.some.inj q6
        exact Or.inl ⟨_, rfl, rfl, weak_fin _ rfl rfl rfl (.cons (.same rfl) (.cons (.same rfl) (LeH.rest))) (.cons (.one (.same rfl)) (.cons (.one (.same rfl)) (.nil))) rfl rfl⟩
      · replace q6 := if_f c10 q6
        refine Tri.run (G := gm_disk_change) tyOk mixed ?_
        conv => whnf
        obtain rfl := Option.some.inj q6
        exact Or.inl ⟨_, rfl, rfl, weak_fin _ rfl rfl rfl (.cons (.same rfl) (.cons (.same rfl) (LeH.rest))) (.cons (.one (.same rfl)) (.cons (.one (.same rfl)) (.nil))) rfl rfl⟩
  · rintro ex S' (⟨v7, rfl, rfl, w11⟩ | ⟨v8, rfl, rfl, w11⟩)
    · dsimp only at h
      conv => whnf
      refine Tri.weak w11 ?_
      refine Tri.seqK ?_
      refine Tri.run (G := gm_disk_change) tyOk mixed ?_
      conv => whnf
      refine Tri.run (G := gm_disk_change) tyOk mixed ?_
      conv => whnf
      refine fin_here ?_
      conv => whnf
      obtain rfl := Option.some.inj h
      rfl
    · dsimp only at h
      conv => whnf
      refine fin_pre w11 ?_
      conv => whnf
      obtain rfl := Option.some.inj h
      rfl
noncomputable def disk_without (d : Disk) (i : Int) : Option (Disk) :=
  (ix d.Files i).bind fun x5 =>
  (disk_size x5).bind fun y7 =>
  need (d.Files.length * 48 ≤ 140737488355328) <|
  need (0 ≤ i ∧ i ≤ (IntKind.i64.wrap (i + 1)) ∧ (IntKind.i64.wrap (i + 1)) ≤ (d.Files.length : Int) ∧ (d.Files.length : Int) < 4611686018427387904 ∧ 0 < d.Files.length) <|
  some ({ Files := (List.take i.toNat d.Files ++ List.drop (IntKind.i64.wrap (i + 1)).toNat d.Files), Room := (IntKind.i64.wrap (d.Room + y7)), Fuse := d.Fuse, Off := d.Off } : Disk)
def gm_disk_without : Gm := ⟨tys, [79], [(63, 69, 3)], [79]⟩
theorem disk_without_walk (d : Disk) (i : Int) (r : Disk) (h : disk_without d i = some r) : PureP Try.prog 70 [.agg [.sl (List.map encFile d.Files), .v (.int .i64 d.Room), .v (.int .i64 d.Fuse), .v (.bool d.Off)], .v (.int .i64 i)] (fun a => a = .agg [.sl (List.map encFile r.Files), .v (.int .i64 r.Room), .v (.int .i64 r.Fuse), .v (.bool r.Off)]) := by
  unfold disk_without at h
  refine pureW (G := gm_disk_without) tyOk Try.func70 rfl (by kernel_rfl) (by simp [Try.f70]) ?_
  refine Tri.seqK ?_
  refine Tri.run (G := gm_disk_without) tyOk mixed ?_
  conv => whnf
  refine Tri.seqK ?_
  refine Tri.run (G := gm_disk_without) tyOk mixed ?_
  conv => whnf
  refine Draw.one 10 (.take 0 (.take 1 (.take 2 (.take 3 (.take 4 (.take 5 (.take 6 (.alt 7 (.take 8 (.take 9 (.fin))) (.nil))))))))) [] (by kernel_rfl) ?_
  conv => whnf
  replace h := bind_some h
  obtain ⟨x5, q6, h⟩ := h
  refine ⟨(ix_some q6).1, ?_⟩
  conv => whnf
  refine ⟨⟨_, map_get encFile (ix_some q6).2, ?_⟩⟩
  conv => whnf
  refine ⟨rfl, ?_⟩
  conv => whnf
  refine ⟨?_, ?_⟩
  · conv => whnf
    replace h := bind_some h
    obtain ⟨y7, q8, h⟩ := h
    refine PureP.mono (disk_size_walk x5 y7 q8) ?_
    rintro _ rfl
    conv => whnf
    refine Tri.seqK ?_
    refine Tri.run (G := gm_disk_without) tyOk mixed ?_
    conv => whnf
    replace h := need_some h
    obtain ⟨p9, h⟩ := h
    refine FreshP.mono (clone_63 d.Files p9) ?_
    rintro _ rfl
    conv => whnf
    refine ⟨rfl, ?_⟩
    conv => whnf
    replace h := need_some h
    obtain ⟨p10, h⟩ := h
    refine EatP.mono (delete_79 d.Files i (IntKind.i64.wrap (i + 1)) p10) ?_
    rintro _ rfl
    conv => whnf
    refine Tri.seqK ?_
    refine Tri.run (G := gm_disk_without) tyOk mixed ?_
    conv => whnf
    refine Tri.run (G := gm_disk_without) tyOk mixed ?_
    conv => whnf
    refine fin_here ?_
    conv => whnf
    refine ⟨rfl, ?_⟩
    conv => whnf
    obtain rfl := Option.some.inj h
    rfl
  · conv => whnf
    trivial
end Go.Ab
