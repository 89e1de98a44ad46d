/- The program's functions as plain Lean functions, and that the program comes to what they come to. Printed by a program of this session. -/
import Derived.Test.YtgmejofagmfcfaaGreatDoorW3
namespace Go.Ab
open Go.Proofs
set_option linter.unusedVariables false
set_option linter.unusedSimpArgs false
set_option maxRecDepth 100000
set_option maxHeartbeats 4000000
noncomputable def ref05_Put_l2 (l : (List Pair)) (key : Str) (val : Str) (y1 : Str × Bool) (a2404 : Bool) (a2405 : Int) (a2406 : (List Pair)) : Option ((Bool × Int × (List Pair)) ⊕ (Bool × (List Pair))) :=
 if (decide (a2405 < (l.length : Int))) then
  (
   (
    (
     if (!a2404) then
      if y1.2 then
       (ix l a2405).bind fun x2826 =>
       if (decide (x2826.Key = key)) then
        some true
       else
        if (!y1.2) then
         (ref01_Less key x2826.Key).bind fun y2830 =>
         some y2830
        else
         some false
      else
       if (!y1.2) then
        (ix l a2405).bind fun x2833 =>
        (ref01_Less key x2833.Key).bind fun y2835 =>
        some y2835
       else
        some false
     else
      some false).bind fun (y2822 : Bool) =>
    if y2822 then
     need ((a2406.length + 1) * 32 ≤ 140737488355328) <|
     if y1.2 then
      some (.inr ())
     else
      some (.inl (true, (a2406 ++ [({ Key := key, Val := val } : Pair)])))
    else
     some (.inl (a2404, a2406))).bind fun (y2792 : (Bool × (List Pair)) ⊕ (Unit)) =>
   match y2792 with
   | (.inl v2794) =>
    (ix l a2405).bind fun x2842 =>
    need ((v2794.2.length + 1) * 32 ≤ 140737488355328) <|
    some (v2794.1, (v2794.2 ++ [x2842]))
   | (.inr v2795) =>
    some (true, (a2406 ++ [({ Key := key, Val := val } : Pair)]))).bind fun (y2700 : Bool × (List Pair)) =>
  some (.inl (y2700.1, (IntKind.i64.wrap (a2405 + 1)), y2700.2))
 else
  some (.inr (a2404, a2406))
noncomputable def ref05_Put (l : (List Pair)) (key : Str) (val : Str) : Option ((List Pair)) :=
 (ref05_Find l key).bind fun y1 =>
 (loop (fun (s2409 : Bool × Int × (List Pair)) => ref05_Put_l2 l key val y1 s2409.1 s2409.2.1 s2409.2.2) (false, (0 : Int), ([] : (List Pair)))).bind fun (y2407 : Bool × (List Pair)) =>
 (
  if (!y2407.1) then
   need ((y2407.2.length + 1) * 32 ≤ 140737488355328) <|
   some (y2407.2 ++ [({ Key := key, Val := val } : Pair)])
  else
   some y2407.2).bind fun (y2851 : (List Pair)) =>
 some y2851
def gm_ref05_Put : Gm := ⟨tys, [], [], []⟩
theorem ref05_Put_walk (l : (List Pair)) (key : Str) (val : Str) (r : (List Pair)) (h : ref05_Put l key val = some r) : PureP Tryz.prog 53 [.sl (List.map encPair l), .v (.string (bs key)), .v (.string (bs val))] (fun a => a = .sl (List.map encPair r)) := by
 unfold ref05_Put at h
 refine pureW (G := gm_ref05_Put) tyOk Tryz.func53 rfl (by kernel_rfl) (by simp [Tryz.f53]) ?_
 refine Tri.seqK ?_
 refine Tri.run (G := gm_ref05_Put) tyOk mixed ?_
 conv => whnf
 refine Tri.seqK ?_
 refine Tri.run (G := gm_ref05_Put) tyOk mixed ?_
 conv => whnf
 replace h := bind_some h
 obtain ⟨y1, q2, h⟩ := h
 refine PureP.mono (ref05_Find_walk l key y1 q2) ?_
 rintro _ rfl
 conv => whnf
 refine Tri.seqK ?_
 refine Tri.run (G := gm_ref05_Put) tyOk mixed ?_
 conv => whnf
 refine Tri.seqK ?_
 refine Tri.run (G := gm_ref05_Put) tyOk mixed ?_
 conv => whnf
 refine Tri.seqK ?_
 refine Tri.seqK ?_
 refine Tri.run (G := gm_ref05_Put) tyOk mixed ?_
 conv => whnf
 refine Tri.block ?_
 replace h := bind_some h
 obtain ⟨y2407, q2408, h⟩ := h
 refine Tri.cut (fun ex S' => ex = (.exit 0) ∧ Weak S' ⟨74, 0, ofRegs [(1, .v (.string (bs key))), (2, .v (.string (bs val))), (9, .row 0 ((List.map encPair y2407.2).length)), (10, .v (.bool y2407.1))], [.row 90 2 (List.map encPair y2407.2)]⟩) ?_ ?_
 ·refine Tri.loopF (fun (s2409 : Bool × Int × (List Pair)) => (⟨74, 0, ofRegs [(0, .sl (List.map encPair l)), (1, .v (.string (bs key))), (2, .v (.string (bs val))), (8, .v (.bool y1.2)), (9, .row 0 ((List.map encPair s2409.2.2).length)), (10, .v (.bool s2409.1)), (11, .v (.int .i64 s2409.2.1))], [.row 90 2 (List.map encPair s2409.2.2)]⟩ : St)) q2408 (Weak.trans (weak_nil 9 90 2 rfl) (weak_fin _ rfl rfl rfl (.cons (.same rfl) (LeH.rest)) (.cons (.one (.same rfl)) (.cons (.one (.same rfl)) (.cons (.one (.same rfl)) (.cons (.one (.same rfl)) (.cons (.one (.same (show (.row 0 0 : AV) = (.row 0 ((List.map encPair []).length) : AV) from congrArg (AV.row 0) (by simp)))) (.cons (.one (.same rfl)) (.cons (.one (.same rfl)) (.nil)))))))) rfl rfl)) ?_
  rintro ⟨a2404, a2405, a2406⟩ v2410 hv r2411
  have hv : ref05_Put_l2 l key val y1 a2404 a2405 a2406 = some v2410 := hv
  unfold ref05_Put_l2 at hv
  dsimp only
  refine Tri.seqK ?_
  refine Tri.seqK ?_
  refine Tri.run (G := gm_ref05_Put) tyOk mixed ?_
  conv => whnf
  refine ⟨⟨(l.length : Int), (len_map _ _).symm, ?_⟩⟩
  conv => whnf
  refine Tri.cond rfl (fun c2413 => ?_) (fun c2413 => ?_)
  ·replace hv := if_t c2413 hv
   refine Tri.run (G := gm_ref05_Put) tyOk mixed ?_
   conv => whnf
   refine Tri.seqK ?_
   replace hv := bind_some hv
   obtain ⟨y2700, q2701, hv⟩ := hv
   refine Tri.cut (fun ex S' => ex = .normal ∧ Weak S' ⟨74, 0, ofRegs [(0, .sl (List.map encPair l)), (1, .v (.string (bs key))), (2, .v (.string (bs val))), (8, .v (.bool y1.2)), (9, .row 0 ((List.map encPair y2700.2).length)), (10, .v (.bool y2700.1)), (11, .v (.int .i64 a2405))], [.row 90 2 (List.map encPair y2700.2)]⟩) ?_ ?_
   ·refine Tri.block ?_
    refine Tri.seqK ?_
    replace q2701 := bind_some q2701
    obtain ⟨y2792, q2793, q2701⟩ := q2701
    refine Tri.cut (fun ex S' => (∃ v2794 : Bool × (List Pair), y2792 = (.inl v2794) ∧ ex = .normal ∧ Weak S' ⟨74, 0, ofRegs [(0, .sl (List.map encPair l)), (1, .v (.string (bs key))), (2, .v (.string (bs val))), (8, .v (.bool y1.2)), (9, .row 0 ((List.map encPair v2794.2).length)), (10, .v (.bool v2794.1)), (11, .v (.int .i64 a2405))], [.row 90 2 (List.map encPair v2794.2)]⟩) ∨ (∃ v2795 : Unit, y2792 = (.inr v2795) ∧ ex = (.exit 1) ∧ Weak S' ⟨74, 0, ofRegs [(0, .sl (List.map encPair l)), (1, .v (.string (bs key))), (2, .v (.string (bs val))), (8, .v (.bool y1.2)), (9, .row 0 ((List.map encPair (a2406 ++ [({ Key := key, Val := val } : Pair)])).length)), (10, .v (.bool true)), (11, .v (.int .i64 a2405))], [.row 90 2 (List.map encPair (a2406 ++ [({ Key := key, Val := val } : Pair)]))]⟩)) ?_ ?_
    ·refine Tri.seqK ?_
     replace q2793 := bind_some q2793
     obtain ⟨y2822, q2823, q2793⟩ := q2793
     refine Tri.cut (fun ex S' => ex = .normal ∧ Weak S' ⟨74, 0, ofRegs [(0, .sl (List.map encPair l)), (1, .v (.string (bs key))), (2, .v (.string (bs val))), (8, .v (.bool y1.2)), (9, .row 0 ((List.map encPair a2406).length)), (10, .v (.bool a2404)), (11, .v (.int .i64 a2405)), (50, .v (.bool y2822))], [.row 90 2 (List.map encPair a2406)]⟩) ?_ ?_
     ·refine Tri.run (G := gm_ref05_Put) tyOk mixed ?_
      conv => whnf
      refine cond_mk (fun c2824 => ?_) (fun c2824 => ?_)
      ·replace q2823 := if_t c2824 q2823
       conv => whnf
       refine cond_mk (fun c2825 => ?_) (fun c2825 => ?_)
       ·replace q2823 := if_t c2825 q2823
        conv => whnf
        replace q2823 := bind_some q2823
        obtain ⟨x2826, q2827, q2823⟩ := q2823
        refine ⟨(ix_some q2827).1, ?_⟩
        conv => whnf
        refine ⟨⟨_, map_get encPair (ix_some q2827).2, ?_⟩⟩
        conv => whnf
        refine ⟨rfl, ?_⟩
        conv => whnf
        refine ⟨⟨(decide (x2826.Key = key)), bs_eq _ _, ?_⟩⟩
        conv => whnf
        refine cond_mk (fun c2828 => ?_) (fun c2828 => ?_)
        ·replace q2823 := if_t c2828 q2823
         conv => whnf
         cases q2823
         exact ⟨rfl, weak_fin _ rfl rfl rfl (.cons (.same rfl) (LeH.rest)) (.cons (.one (.same rfl)) (.cons (.one (.same rfl)) (.cons (.one (.same rfl)) (.cons (.one (.same rfl)) (.cons (.one (.same rfl)) (.cons (.one (.same rfl)) (.cons (.one (.same rfl)) (.cons (.one (.same rfl)) (.nil))))))))) rfl rfl⟩
        ·replace q2823 := if_f c2828 q2823
         conv => whnf
         refine cond_mk (fun c2829 => ?_) (fun c2829 => ?_)
         ·replace q2823 := if_t c2829 q2823
          conv => whnf
          refine ⟨(ix_some q2827).1, ?_⟩
          conv => whnf
          refine ⟨⟨_, map_get encPair (ix_some q2827).2, ?_⟩⟩
          conv => whnf
          refine ⟨rfl, ?_⟩
          conv => whnf
          replace q2823 := bind_some q2823
          obtain ⟨y2830, q2831, q2823⟩ := q2823
          refine PureP.mono (ref01_Less_walk key x2826.Key y2830 q2831) ?_
          rintro _ rfl
          conv => whnf
          cases q2823
          exact ⟨rfl, weak_fin _ rfl rfl rfl (.cons (.same rfl) (LeH.rest)) (.cons (.one (.same rfl)) (.cons (.one (.same rfl)) (.cons (.one (.same rfl)) (.cons (.one (.same rfl)) (.cons (.one (.same rfl)) (.cons (.one (.same rfl)) (.cons (.one (.same rfl)) (.cons (.one (.same rfl)) (.nil))))))))) rfl rfl⟩
         ·replace q2823 := if_f c2829 q2823
          conv => whnf
          cases q2823
          exact ⟨rfl, weak_fin _ rfl rfl rfl (.cons (.same rfl) (LeH.rest)) (.cons (.one (.same rfl)) (.cons (.one (.same rfl)) (.cons (.one (.same rfl)) (.cons (.one (.same rfl)) (.cons (.one (.same rfl)) (.cons (.one (.same rfl)) (.cons (.one (.same rfl)) (.cons (.one (.same rfl)) (.nil))))))))) rfl rfl⟩
       ·replace q2823 := if_f c2825 q2823
        conv => whnf
        refine cond_mk (fun c2832 => ?_) (fun c2832 => ?_)
        ·replace q2823 := if_t c2832 q2823
         conv => whnf
         replace q2823 := bind_some q2823
         obtain ⟨x2833, q2834, q2823⟩ := q2823
         refine ⟨(ix_some q2834).1, ?_⟩
         conv => whnf
         refine ⟨⟨_, map_get encPair (ix_some q2834).2, ?_⟩⟩
         conv => whnf
         refine ⟨rfl, ?_⟩
         conv => whnf
         replace q2823 := bind_some q2823
         obtain ⟨y2835, q2836, q2823⟩ := q2823
         refine PureP.mono (ref01_Less_walk key x2833.Key y2835 q2836) ?_
         rintro _ rfl
         conv => whnf
         cases q2823
         exact ⟨rfl, weak_fin _ rfl rfl rfl (.cons (.same rfl) (LeH.rest)) (.cons (.one (.same rfl)) (.cons (.one (.same rfl)) (.cons (.one (.same rfl)) (.cons (.one (.same rfl)) (.cons (.one (.same rfl)) (.cons (.one (.same rfl)) (.cons (.one (.same rfl)) (.cons (.one (.same rfl)) (.nil))))))))) rfl rfl⟩
        ·replace q2823 := if_f c2832 q2823
         conv => whnf
         cases q2823
         exact ⟨rfl, weak_fin _ rfl rfl rfl (.cons (.same rfl) (LeH.rest)) (.cons (.one (.same rfl)) (.cons (.one (.same rfl)) (.cons (.one (.same rfl)) (.cons (.one (.same rfl)) (.cons (.one (.same rfl)) (.cons (.one (.same rfl)) (.cons (.one (.same rfl)) (.cons (.one (.same rfl)) (.nil))))))))) rfl rfl⟩
      ·replace q2823 := if_f c2824 q2823
       conv => whnf
       cases q2823
       exact ⟨rfl, weak_fin _ rfl rfl rfl (.cons (.same rfl) (LeH.rest)) (.cons (.one (.same rfl)) (.cons (.one (.same rfl)) (.cons (.one (.same rfl)) (.cons (.one (.same rfl)) (.cons (.one (.same rfl)) (.cons (.one (.same rfl)) (.cons (.one (.same rfl)) (.cons (.one (.same rfl)) (.nil))))))))) rfl rfl⟩
     ·rintro ex S' ⟨rfl, w2837⟩
      conv => whnf
      refine Tri.weak w2837 ?_
      refine Tri.cond rfl (fun c2838 => ?_) (fun c2838 => ?_)
      ·replace q2793 := if_t c2838 q2793
       refine Tri.seqK ?_
       refine Tri.run (G := gm_ref05_Put) tyOk mixed ?_
       conv => whnf
       refine ⟨⟨List.map encPair [({ Key := key, Val := val } : Pair)], rfl, ?_⟩⟩
       conv => whnf
       refine ⟨rfl, ?_⟩
       conv => whnf
       refine ⟨rfl, ?_⟩
       conv => whnf
       replace q2793 := need_some q2793
       obtain ⟨p2839, q2793⟩ := q2793
       refine ⟨by simp only [List.length_map]; exact p2839, ?_⟩
       conv => whnf
       refine ⟨⟨List.map encPair (a2406 ++ [({ Key := key, Val := val } : Pair)]), map_app encPair _ _ rfl rfl, ?_⟩⟩
       conv => whnf
       refine Tri.seqK ?_
       refine Tri.run (G := gm_ref05_Put) tyOk mixed ?_
       conv => whnf
       refine Tri.seqK ?_
       refine Tri.run (G := gm_ref05_Put) tyOk mixed ?_
       conv => whnf
       refine Tri.cond rfl (fun c2840 => ?_) (fun c2840 => ?_)
       ·replace q2793 := if_t c2840 q2793
        refine Tri.run (G := gm_ref05_Put) tyOk mixed ?_
        conv => whnf
        cases q2793
        exact Or.inr (⟨_, rfl, rfl, weak_fin _ rfl rfl rfl (.cons (.same rfl) (LeH.rest)) (.cons (.one (.same rfl)) (.cons (.one (.same rfl)) (.cons (.one (.same rfl)) (.cons (.one (.same rfl)) (.cons (.one (.same rfl)) (.cons (.one (.same rfl)) (.cons (.one (.same rfl)) (.nil)))))))) rfl rfl⟩)
       ·replace q2793 := if_f c2840 q2793
        refine Tri.run (G := gm_ref05_Put) tyOk mixed ?_
        conv => whnf
        cases q2793
        exact Or.inl ⟨_, rfl, rfl, weak_fin _ rfl rfl rfl (.cons (.same rfl) (LeH.rest)) (.cons (.one (.same rfl)) (.cons (.one (.same rfl)) (.cons (.one (.same rfl)) (.cons (.one (.same rfl)) (.cons (.one (.same rfl)) (.cons (.one (.same rfl)) (.cons (.one (.same rfl)) (.nil)))))))) rfl rfl⟩
      ·replace q2793 := if_f c2838 q2793
       refine Tri.run (G := gm_ref05_Put) tyOk mixed ?_
       conv => whnf
       cases q2793
       exact Or.inl ⟨_, rfl, rfl, weak_fin _ rfl rfl rfl (.cons (.same rfl) (LeH.rest)) (.cons (.one (.same rfl)) (.cons (.one (.same rfl)) (.cons (.one (.same rfl)) (.cons (.one (.same rfl)) (.cons (.one (.same rfl)) (.cons (.one (.same rfl)) (.cons (.one (.same rfl)) (.nil)))))))) rfl rfl⟩
    ·rintro ex S' (⟨v2794, rfl, rfl, w2841⟩ | ⟨v2795, rfl, rfl, w2841⟩)
     ·dsimp only at q2701
      conv => whnf
      refine Tri.weak w2841 ?_
      refine Tri.run (G := gm_ref05_Put) tyOk mixed ?_
      conv => whnf
      replace q2701 := bind_some q2701
      obtain ⟨x2842, q2843, q2701⟩ := q2701
      refine ⟨(ix_some q2843).1, ?_⟩
      conv => whnf
      refine ⟨⟨_, map_get encPair (ix_some q2843).2, ?_⟩⟩
      conv => whnf
      refine ⟨rfl, ?_⟩
      conv => whnf
      refine ⟨⟨List.map encPair [x2842], rfl, ?_⟩⟩
      conv => whnf
      refine ⟨rfl, ?_⟩
      conv => whnf
      refine ⟨rfl, ?_⟩
      conv => whnf
      replace q2701 := need_some q2701
      obtain ⟨p2844, q2701⟩ := q2701
      refine ⟨by simp only [List.length_map]; exact p2844, ?_⟩
      conv => whnf
      refine ⟨⟨List.map encPair (v2794.2 ++ [x2842]), map_app encPair _ _ rfl rfl, ?_⟩⟩
      conv => whnf
      cases q2701
      exact ⟨rfl, weak_fin _ rfl rfl rfl (.cons (.same rfl) (LeH.rest)) (.cons (.one (.same rfl)) (.cons (.one (.same rfl)) (.cons (.one (.same rfl)) (.cons (.one (.same rfl)) (.cons (.one (.same rfl)) (.cons (.one (.same rfl)) (.cons (.one (.same rfl)) (.nil)))))))) rfl rfl⟩
     ·dsimp only at q2701
      conv => whnf
      cases q2701
      exact ⟨rfl, Weak.trans w2841 (weak_fin _ rfl rfl rfl (.cons (.same rfl) (LeH.rest)) (.cons (.one (.same rfl)) (.cons (.one (.same rfl)) (.cons (.one (.same rfl)) (.cons (.one (.same rfl)) (.cons (.one (.same rfl)) (.cons (.one (.same rfl)) (.cons (.one (.same rfl)) (.nil)))))))) rfl rfl)⟩
   ·rintro ex S' ⟨rfl, w2845⟩
    conv => whnf
    refine Tri.weak w2845 ?_
    refine Tri.run (G := gm_ref05_Put) tyOk mixed ?_
    conv => whnf
    cases hv
    exact ⟨_, rfl, weak_fin _ rfl rfl rfl (.cons (.same rfl) (LeH.rest)) (.cons (.one (.same rfl)) (.cons (.one (.same rfl)) (.cons (.one (.same rfl)) (.cons (.one (.same rfl)) (.cons (.one (.same rfl)) (.cons (.one (.same rfl)) (.cons (.one (.same rfl)) (.nil)))))))) rfl rfl⟩
  ·replace hv := if_f c2413 hv
   refine Tri.run (G := gm_ref05_Put) tyOk mixed ?_
   conv => whnf
   cases hv
   obtain rfl := r2411 _ rfl
   exact ⟨rfl, weak_fin _ rfl rfl rfl (.cons (.same rfl) (LeH.rest)) (.cons (.one (.same rfl)) (.cons (.one (.same rfl)) (.cons (.one (.same rfl)) (.cons (.one (.same rfl)) (.nil))))) rfl rfl⟩
 ·rintro ex S' ⟨rfl, w2846⟩
  conv => whnf
  refine Tri.weak w2846 ?_
  refine Tri.seqK ?_
  replace h := bind_some h
  obtain ⟨y2851, q2852, h⟩ := h
  refine Tri.cut (fun ex S' => ex = .normal ∧ Weak S' ⟨74, 0, ofRegs [(9, .row 0 ((List.map encPair y2851).length))], [.row 90 2 (List.map encPair y2851)]⟩) ?_ ?_
  ·refine Tri.seqK ?_
   refine Tri.run (G := gm_ref05_Put) tyOk mixed ?_
   conv => whnf
   refine Tri.cond rfl (fun c2853 => ?_) (fun c2853 => ?_)
   ·replace q2852 := if_t c2853 q2852
    refine Tri.run (G := gm_ref05_Put) tyOk mixed ?_
    conv => whnf
    refine ⟨⟨List.map encPair [({ Key := key, Val := val } : Pair)], rfl, ?_⟩⟩
    conv => whnf
    refine ⟨rfl, ?_⟩
    conv => whnf
    refine ⟨rfl, ?_⟩
    conv => whnf
    replace q2852 := need_some q2852
    obtain ⟨p2854, q2852⟩ := q2852
    refine ⟨by simp only [List.length_map]; exact p2854, ?_⟩
    conv => whnf
    refine ⟨⟨List.map encPair (y2407.2 ++ [({ Key := key, Val := val } : Pair)]), map_app encPair _ _ rfl rfl, ?_⟩⟩
    conv => whnf
    cases q2852
    exact ⟨rfl, weak_fin _ rfl rfl rfl (.cons (.same rfl) (LeH.rest)) (.cons (.one (.same rfl)) (.nil)) rfl rfl⟩
   ·replace q2852 := if_f c2853 q2852
    refine Tri.run (G := gm_ref05_Put) tyOk mixed ?_
    conv => whnf
    cases q2852
    exact ⟨rfl, weak_fin _ rfl rfl rfl (.cons (.same rfl) (LeH.rest)) (.cons (.one (.same rfl)) (.nil)) rfl rfl⟩
  ·rintro ex S' ⟨rfl, w2855⟩
   conv => whnf
   refine Tri.weak w2855 ?_
   refine Tri.seqK ?_
   refine Tri.run (G := gm_ref05_Put) tyOk mixed ?_
   conv => whnf
   refine Tri.run (G := gm_ref05_Put) tyOk mixed ?_
   conv => whnf
   refine fin_here ?_
   conv => whnf
   refine ⟨rfl, ?_⟩
   conv => whnf
   cases h
   rfl
noncomputable def ref05_Apply_l2 (w : (List Write)) (a174 : (List Pair)) (a175 : Int) : Option (((List Pair) × Int) ⊕ ((List Pair))) :=
 if (decide (a175 < (w.length : Int))) then
  (
   (ix w a175).bind fun x203 =>
   if x203.Del then
    (ref05_Drop a174 x203.Key).bind fun y206 =>
    some y206
   else
    (ref05_Put a174 x203.Key x203.Val).bind fun y210 =>
    some y210).bind fun (y201 : (List Pair)) =>
  some (.inl (y201, (IntKind.i64.wrap (a175 + 1))))
 else
  some (.inr a174)
noncomputable def ref05_Apply (l : (List Pair)) (w : (List Write)) : Option ((List Pair)) :=
 need ((([] : List Pair).length + l.length) * 32 ≤ 140737488355328) <|
 (loop (fun (s178 : (List Pair) × Int) => ref05_Apply_l2 w s178.1 s178.2) ((([] : List Pair) ++ l), (0 : Int))).bind fun (y176 : (List Pair)) =>
 some y176
def gm_ref05_Apply : Gm := ⟨tys, [], [], []⟩
theorem ref05_Apply_walk (l : (List Pair)) (w : (List Write)) (r : (List Pair)) (h : ref05_Apply l w = some r) : PureP Tryz.prog 52 [.sl (List.map encPair l), .sl (List.map encWrite w)] (fun a => a = .sl (List.map encPair r)) := by
 unfold ref05_Apply at h
 refine pureW (G := gm_ref05_Apply) tyOk Tryz.func52 rfl (by kernel_rfl) (by simp [Tryz.f52]) ?_
 refine Tri.seqK ?_
 refine Tri.run (G := gm_ref05_Apply) tyOk mixed ?_
 conv => whnf
 refine Tri.seqK ?_
 refine Tri.run (G := gm_ref05_Apply) tyOk mixed ?_
 conv => whnf
 refine ⟨⟨List.map encPair ([] : List Pair), rfl, ?_⟩⟩
 conv => whnf
 refine ⟨rfl, ?_⟩
 conv => whnf
 refine ⟨map_len (f := encPair) (n := 2) (fun _ => rfl) _, ?_⟩
 conv => whnf
 replace h := need_some h
 obtain ⟨p1, h⟩ := h
 refine ⟨by simp only [List.length_map]; exact p1, ?_⟩
 conv => whnf
 refine ⟨⟨List.map encPair (([] : List Pair) ++ l), map_app encPair _ _ rfl rfl, ?_⟩⟩
 conv => whnf
 refine Tri.seqK ?_
 refine Tri.seqK ?_
 refine Tri.run (G := gm_ref05_Apply) tyOk mixed ?_
 conv => whnf
 refine Tri.block ?_
 replace h := bind_some h
 obtain ⟨y176, q177, h⟩ := h
 refine Tri.cut (fun ex S' => ex = (.exit 0) ∧ Weak S' ⟨41, 0, ofRegs [(5, .sl (List.map encPair y176))], []⟩) ?_ ?_
 ·refine Tri.loopF (fun (s178 : (List Pair) × Int) => (⟨41, 0, ofRegs [(1, .sl (List.map encWrite w)), (5, .sl (List.map encPair s178.1)), (6, .v (.int .i64 s178.2))], []⟩ : St)) q177 (Weak.trans (weak_freeze 0 rfl) (weak_fin _ rfl rfl rfl (LeH.rest) (.cons (.one (.same rfl)) (.cons (.one (.frz rfl (rfl))) (.cons (.one (.same rfl)) (.nil)))) rfl rfl)) ?_
  rintro ⟨a174, a175⟩ v179 hv r180
  have hv : ref05_Apply_l2 w a174 a175 = some v179 := hv
  unfold ref05_Apply_l2 at hv
  dsimp only
  refine Tri.seqK ?_
  refine Tri.seqK ?_
  refine Tri.run (G := gm_ref05_Apply) tyOk mixed ?_
  conv => whnf
  refine ⟨⟨(w.length : Int), (len_map _ _).symm, ?_⟩⟩
  conv => whnf
  refine Tri.cond rfl (fun c182 => ?_) (fun c182 => ?_)
  ·replace hv := if_t c182 hv
   refine Tri.run (G := gm_ref05_Apply) tyOk mixed ?_
   conv => whnf
   refine Tri.seqK ?_
   replace hv := bind_some hv
   obtain ⟨y201, q202, hv⟩ := hv
   refine Tri.cut (fun ex S' => ex = .normal ∧ Weak S' ⟨41, 0, ofRegs [(1, .sl (List.map encWrite w)), (5, .sl (List.map encPair y201)), (6, .v (.int .i64 a175))], []⟩) ?_ ?_
   ·refine Tri.block ?_
    refine Tri.seqK ?_
    refine Tri.run (G := gm_ref05_Apply) tyOk mixed ?_
    conv => whnf
    replace q202 := bind_some q202
    obtain ⟨x203, q204, q202⟩ := q202
    refine ⟨(ix_some q204).1, ?_⟩
    conv => whnf
    refine ⟨⟨_, map_get encWrite (ix_some q204).2, ?_⟩⟩
    conv => whnf
    refine ⟨rfl, ?_⟩
    conv => whnf
    refine Tri.cond rfl (fun c205 => ?_) (fun c205 => ?_)
    ·replace q202 := if_t c205 q202
     refine Tri.run (G := gm_ref05_Apply) tyOk mixed ?_
     conv => whnf
     refine ⟨(ix_some q204).1, ?_⟩
     conv => whnf
     refine ⟨⟨_, map_get encWrite (ix_some q204).2, ?_⟩⟩
     conv => whnf
     refine ⟨rfl, ?_⟩
     conv => whnf
     replace q202 := bind_some q202
     obtain ⟨y206, q207, q202⟩ := q202
     refine PureP.mono (ref05_Drop_walk a174 x203.Key y206 q207) ?_
     rintro _ rfl
     conv => whnf
     cases q202
     exact ⟨rfl, weak_fin _ rfl rfl rfl (LeH.rest) (.cons (.one (.same rfl)) (.cons (.one (.same rfl)) (.cons (.one (.same rfl)) (.nil)))) rfl rfl⟩
    ·replace q202 := if_f c205 q202
     refine Tri.run (G := gm_ref05_Apply) tyOk mixed ?_
     conv => whnf
     refine Draw.one 13 (.take 0 (.take 1 (.take 2 (.take 3 (.take 4 (.take 5 (.take 6 (.take 7 (.take 8 (.take 9 (.take 10 (.alt 11 (.take 12 (.fin)) (.nil))))))))))))) [] (by kernel_rfl) ?_
     conv => whnf
     refine ⟨(ix_some q204).1, ?_⟩
     conv => whnf
     refine ⟨⟨_, map_get encWrite (ix_some q204).2, ?_⟩⟩
     conv => whnf
     refine ⟨rfl, ?_⟩
     conv => whnf
     refine ⟨(ix_some q204).1, ?_⟩
     conv => whnf
     refine ⟨⟨_, map_get encWrite (ix_some q204).2, ?_⟩⟩
     conv => whnf
     refine ⟨rfl, ?_⟩
     conv => whnf
     refine ⟨?_, ?_⟩
     ·conv => whnf
      replace q202 := bind_some q202
      obtain ⟨y210, q211, q202⟩ := q202
      refine PureP.mono (ref05_Put_walk a174 x203.Key x203.Val y210 q211) ?_
      rintro _ rfl
      conv => whnf
      cases q202
      exact ⟨rfl, weak_fin _ rfl rfl rfl (LeH.rest) (.cons (.one (.same rfl)) (.cons (.one (.same rfl)) (.cons (.one (.same rfl)) (.nil)))) rfl rfl⟩
     ·conv => whnf
      trivial
   ·rintro ex S' ⟨rfl, w212⟩
    conv => whnf
    refine Tri.weak w212 ?_
    refine Tri.run (G := gm_ref05_Apply) tyOk mixed ?_
    conv => whnf
    cases hv
    exact ⟨_, rfl, weak_fin _ rfl rfl rfl (LeH.rest) (.cons (.one (.same rfl)) (.cons (.one (.same rfl)) (.cons (.one (.same rfl)) (.nil)))) rfl rfl⟩
  ·replace hv := if_f c182 hv
   refine Tri.run (G := gm_ref05_Apply) tyOk mixed ?_
   conv => whnf
   cases hv
   obtain rfl := r180 _ rfl
   exact ⟨rfl, weak_fin _ rfl rfl rfl (LeH.rest) (.cons (.one (.same rfl)) (.nil)) rfl rfl⟩
 ·rintro ex S' ⟨rfl, w213⟩
  conv => whnf
  refine Tri.weak w213 ?_
  refine Tri.seqK ?_
  refine Tri.run (G := gm_ref05_Apply) tyOk mixed ?_
  conv => whnf
  refine Tri.run (G := gm_ref05_Apply) tyOk mixed ?_
  conv => whnf
  refine fin_here ?_
  conv => whnf
  cases h
  rfl
noncomputable def ref07_Do (s : State) (b : Batch) : Option (State × Int) :=
 (ref07_May b).bind fun y1 =>
 if (!y1) then
  some (s, 1)
 else
  (ref07_Decided s b.Token).bind fun y5 =>
  if y5.2 then
   some (s, 8)
  else
   (ref05_Apply s.Data b.Writes).bind fun y18 =>
   (ref05_Put s.Toks b.Token (if (decide (b.Kind = 2)) then [103] else [99])).bind fun y20 =>
   some (({ Data := y18, Toks := y20 } : State), 0)
def gm_ref07_Do : Gm := ⟨tys, [], [], []⟩
theorem ref07_Do_walk (s : State) (b : Batch) (r : State × Int) (h : ref07_Do s b = some r) : PureP Tryz.prog 18 [.agg [.sl (List.map encPair s.Data), .sl (List.map encPair s.Toks)], .agg [.v (.int .i64 b.Kind), .v (.string (bs b.Token)), .sl (List.map encWrite b.Writes)]] (fun a => a = .tup [.agg [.sl (List.map encPair r.1.Data), .sl (List.map encPair r.1.Toks)], .v (.int .i64 r.2)]) := by
 unfold ref07_Do at h
 refine pureW (G := gm_ref07_Do) tyOk Tryz.func18 rfl (by kernel_rfl) (by simp [Tryz.f18]) ?_
 refine Tri.seqK ?_
 refine Tri.run (G := gm_ref07_Do) tyOk mixed ?_
 conv => whnf
 refine Tri.seqK ?_
 refine Tri.run (G := gm_ref07_Do) tyOk mixed ?_
 conv => whnf
 replace h := bind_some h
 obtain ⟨y1, q2, h⟩ := h
 refine PureP.mono (ref07_May_walk b y1 q2) ?_
 rintro _ rfl
 conv => whnf
 refine Tri.seqK ?_
 refine Tri.seqK ?_
 refine Tri.run (G := gm_ref07_Do) tyOk mixed ?_
 conv => whnf
 refine Tri.cond rfl (fun c4 => ?_) (fun c4 => ?_)
 ·replace h := if_t c4 h
  refine Tri.seqK ?_
  refine Tri.run (G := gm_ref07_Do) tyOk mixed ?_
  conv => whnf
  refine Tri.run (G := gm_ref07_Do) tyOk mixed ?_
  conv => whnf
  refine fin_here ?_
  conv => whnf
  cases h
  rfl
 ·replace h := if_f c4 h
  refine Tri.run (G := gm_ref07_Do) tyOk mixed ?_
  conv => whnf
  refine Tri.seqK ?_
  refine Tri.run (G := gm_ref07_Do) tyOk mixed ?_
  conv => whnf
  replace h := bind_some h
  obtain ⟨y5, q6, h⟩ := h
  refine PureP.mono (ref07_Decided_walk s b.Token y5 q6) ?_
  rintro _ rfl
  conv => whnf
  refine Tri.seqK ?_
  refine Tri.seqK ?_
  refine Tri.run (G := gm_ref07_Do) tyOk mixed ?_
  conv => whnf
  refine Tri.cond rfl (fun c8 => ?_) (fun c8 => ?_)
  ·replace h := if_t c8 h
   refine Tri.seqK ?_
   refine Tri.run (G := gm_ref07_Do) tyOk mixed ?_
   conv => whnf
   refine Tri.run (G := gm_ref07_Do) tyOk mixed ?_
   conv => whnf
   refine fin_here ?_
   conv => whnf
   cases h
   rfl
  ·replace h := if_f c8 h
   refine Tri.run (G := gm_ref07_Do) tyOk mixed ?_
   conv => whnf
   refine Tri.seqK ?_
   refine Tri.run (G := gm_ref07_Do) tyOk mixed ?_
   conv => whnf
   refine Tri.seqK ?_
   refine Tri.cut (fun ex S' => ex = .normal ∧ Weak S' ⟨39, 0, ofRegs [(2, .ptr 0 0), (3, .ptr 1 0), (4, .ptr 2 0), (9, .v (.string (bs (if (decide (b.Kind = 2)) then [103] else [99]))))], [.var 36 [.sl (List.map encPair s.Data), .sl (List.map encPair s.Toks)], .var 25 [.v (.int .i64 b.Kind), .v (.string (bs b.Token)), .sl (List.map encWrite b.Writes)], .var 36 [.v (.slice none 0 0), .v (.slice none 0 0)]]⟩) ?_ ?_
   ·refine Tri.seqK ?_
    refine Tri.run (G := gm_ref07_Do) tyOk mixed ?_
    conv => whnf
    refine Tri.cond rfl (fun c12 => ?_) (fun c12 => ?_)
    ·replace c12 : (decide (b.Kind = 2)) = true := c12
     refine Tri.run (G := gm_ref07_Do) tyOk mixed ?_
     conv => whnf
     exact ⟨rfl, weak_fin _ rfl rfl rfl (.cons (.same rfl) (.cons (.same rfl) (.cons (.same rfl) (LeH.rest)))) (.cons (.one (.same rfl)) (.cons (.one (.same rfl)) (.cons (.one (.same rfl)) (.cons (.one (.same (show (.v (.string (bs [103])) : AV) = (.v (.string (bs (if (decide (b.Kind = 2)) then [103] else [99]))) : AV) from by first | (simp [c12]; done) | (simp only [c12, Bool.or_true, Bool.true_or, Bool.false_or, Bool.or_false, Bool.and_true, Bool.true_and, Bool.and_false, Bool.false_and, Bool.not_true, Bool.not_false, if_true, if_false, Bool.false_eq_true]; done) | (exfalso; revert c12; simp +contextual; done)))) (.nil))))) rfl rfl⟩
    ·replace c12 : (decide (b.Kind = 2)) = false := c12
     refine Tri.run (G := gm_ref07_Do) tyOk mixed ?_
     conv => whnf
     exact ⟨rfl, weak_fin _ rfl rfl rfl (.cons (.same rfl) (.cons (.same rfl) (.cons (.same rfl) (LeH.rest)))) (.cons (.one (.same rfl)) (.cons (.one (.same rfl)) (.cons (.one (.same rfl)) (.cons (.one (.same (show (.v (.string (bs [99])) : AV) = (.v (.string (bs (if (decide (b.Kind = 2)) then [103] else [99]))) : AV) from by first | (simp [c12]; done) | (simp only [c12, Bool.or_true, Bool.true_or, Bool.false_or, Bool.or_false, Bool.and_true, Bool.true_and, Bool.and_false, Bool.false_and, Bool.not_true, Bool.not_false, if_true, if_false, Bool.false_eq_true]; done) | (exfalso; revert c12; simp +contextual; done)))) (.nil))))) rfl rfl⟩
   ·rintro ex S' ⟨rfl, w13⟩
    conv => whnf
    refine Tri.weak w13 ?_
    refine Tri.seqK ?_
    refine Tri.run (G := gm_ref07_Do) tyOk mixed ?_
    conv => whnf
    refine Draw.one 12 (.take 0 (.take 1 (.take 2 (.take 3 (.take 5 (.take 6 (.take 7 (.take 8 (.take 9 (.alt 4 (.alt 10 (.take 11 (.fin)) (.nil)) (.nil))))))))))) [] (by kernel_rfl) ?_
    conv => whnf
    refine ⟨?_, ?_⟩
    ·conv => whnf
     replace h := bind_some h
     obtain ⟨y18, q19, h⟩ := h
     refine PureP.mono (ref05_Apply_walk s.Data b.Writes y18 q19) ?_
     rintro _ rfl
     conv => whnf
     refine ⟨?_, ?_⟩
     ·conv => whnf
      replace h := bind_some h
      obtain ⟨y20, q21, h⟩ := h
      refine PureP.mono (ref05_Put_walk s.Toks b.Token (if (decide (b.Kind = 2)) then [103] else [99]) y20 q21) ?_
      rintro _ rfl
      conv => whnf
      refine Tri.run (G := gm_ref07_Do) tyOk mixed ?_
      conv => whnf
      refine fin_here ?_
      conv => whnf
      cases h
      rfl
     ·conv => whnf
      trivial
    ·conv => whnf
     trivial
noncomputable def law08_KvCommits (x : Store) (b : Batch) : Option (Bool) :=
 law08_shown.bind fun y1 =>
 (kv_Commit x b).bind fun y3 =>
 if (!(decide (y3.2 = 0))) then
  if y1 then
   (ref07_Same x.S y3.1.S).bind fun y11 =>
   some y11
  else
   some false
 else
  (ref07_Do x.S b).bind fun y13 =>
  if y1 then
   if (decide (y13.2 = 0)) then
    (ref07_Same y13.1 y3.1.S).bind fun y17 =>
    some y17
   else
    some false
  else
   some false
def gm_law08_KvCommits : Gm := ⟨tys, [], [], []⟩
theorem law08_KvCommits_walk (x : Store) (b : Batch) (r : Bool) (h : law08_KvCommits x b = some r) : PureP Tryz.prog 4 [.agg [.sl (List.map encFile x.D.Files), .v (.int .i64 x.D.Room), .v (.int .i64 x.D.Fuse), .v (.bool x.D.Off), .v (.int .i64 x.From), .v (.int .i64 x.Seg), .v (.int .i64 x.Run), .sl (List.map encPair x.S.Data), .sl (List.map encPair x.S.Toks), .v (.bool x.Down)], .agg [.v (.int .i64 b.Kind), .v (.string (bs b.Token)), .sl (List.map encWrite b.Writes)]] (fun a => a = .v (.bool r)) := by
 unfold law08_KvCommits at h
 refine pureW (G := gm_law08_KvCommits) tyOk Tryz.func4 rfl (by kernel_rfl) (by simp [Tryz.f4]) ?_
 refine Tri.seqK ?_
 refine Tri.run (G := gm_law08_KvCommits) tyOk mixed ?_
 conv => whnf
 refine Tri.seqK ?_
 refine Tri.run (G := gm_law08_KvCommits) tyOk mixed ?_
 conv => whnf
 replace h := bind_some h
 obtain ⟨y1, q2, h⟩ := h
 refine PureP.mono (law08_shown_walk y1 q2) ?_
 rintro _ rfl
 conv => whnf
 refine Tri.seqK ?_
 refine Tri.run (G := gm_law08_KvCommits) tyOk mixed ?_
 conv => whnf
 replace h := bind_some h
 obtain ⟨y3, q4, h⟩ := h
 refine PureP.mono (kv_Commit_walk x b y3 q4) ?_
 rintro _ rfl
 conv => whnf
 refine Tri.seqK ?_
 refine Tri.seqK ?_
 refine Tri.run (G := gm_law08_KvCommits) tyOk mixed ?_
 conv => whnf
 refine Tri.cond rfl (fun c9 => ?_) (fun c9 => ?_)
 ·replace h := if_t c9 h
  refine Tri.seqK ?_
  refine Tri.run (G := gm_law08_KvCommits) tyOk mixed ?_
  conv => whnf
  refine cond_mk (fun c10 => ?_) (fun c10 => ?_)
  ·replace h := if_t c10 h
   conv => whnf
   replace h := bind_some h
   obtain ⟨y11, q12, h⟩ := h
   refine PureP.mono (ref07_Same_walk x.S y3.1.S y11 q12) ?_
   rintro _ rfl
   conv => whnf
   refine Tri.run (G := gm_law08_KvCommits) tyOk mixed ?_
   conv => whnf
   refine fin_here ?_
   conv => whnf
   cases h
   rfl
  ·replace h := if_f c10 h
   conv => whnf
   refine Tri.run (G := gm_law08_KvCommits) tyOk mixed ?_
   conv => whnf
   refine fin_here ?_
   conv => whnf
   cases h
   rfl
 ·replace h := if_f c9 h
  refine Tri.run (G := gm_law08_KvCommits) tyOk mixed ?_
  conv => whnf
  refine Tri.seqK ?_
  refine Tri.run (G := gm_law08_KvCommits) tyOk mixed ?_
  conv => whnf
  replace h := bind_some h
  obtain ⟨y13, q14, h⟩ := h
  refine PureP.mono (ref07_Do_walk x.S b y13 q14) ?_
  rintro _ rfl
  conv => whnf
  refine Tri.seqK ?_
  refine Tri.run (G := gm_law08_KvCommits) tyOk mixed ?_
  conv => whnf
  refine cond_mk (fun c15 => ?_) (fun c15 => ?_)
  ·replace h := if_t c15 h
   conv => whnf
   refine cond_mk (fun c16 => ?_) (fun c16 => ?_)
   ·replace h := if_t c16 h
    conv => whnf
    replace h := bind_some h
    obtain ⟨y17, q18, h⟩ := h
    refine PureP.mono (ref07_Same_walk y13.1 y3.1.S y17 q18) ?_
    rintro _ rfl
    conv => whnf
    refine Tri.run (G := gm_law08_KvCommits) tyOk mixed ?_
    conv => whnf
    refine fin_here ?_
    conv => whnf
    cases h
    rfl
   ·replace h := if_f c16 h
    conv => whnf
    refine Tri.run (G := gm_law08_KvCommits) tyOk mixed ?_
    conv => whnf
    refine fin_here ?_
    conv => whnf
    cases h
    rfl
  ·replace h := if_f c15 h
   conv => whnf
   refine Tri.run (G := gm_law08_KvCommits) tyOk mixed ?_
   conv => whnf
   refine fin_here ?_
   conv => whnf
   cases h
   rfl
end Go.Ab
