/- The rest of the value operations, and the one theorem on all of them. -/
import Derived.Test.YthhddlhgkejhbaaStAbsF
namespace Go.Ab
set_option linter.unusedVariables false
set_option linter.unusedSimpArgs false
section
variable {X : Nat → Prop} {P : Program} {G : Tys} {S : St} {a : Act} {w : World} {F : Nat → Prop} {e : Env}

theorem field_at {t : TypeId} {ti : TI} {fs : List (Nat × TypeId)} (g : TGood P t ti) (hu : ti.u = .struct fs) {f off : Nat} {ft : TypeId} (hf : fs[f]? = some (off, ft)) :
    ∃ gs fd, P.underlying t = some (.struct gs) ∧ gs[f]? = some fd ∧ fd.offset = off ∧ fd.type = ft := by
  obtain ⟨gs, hde, hfs, _⟩ := g.struct hu
  subst hfs
  rw [List.getElem?_map] at hf
  cases hj : gs.toList[f]? with
  | none => rw [hj] at hf; cases hf
  | some fd =>
    rw [hj] at hf
    simp at hf
    exact ⟨gs, fd, hde, by simpa using hj, hf.1, hf.2⟩

theorem run_fieldAt {t : TypeId} {ti tf : TI} {fs : List (Nat × TypeId)} (g : TGood P t ti) (hu : ti.u = .struct fs) {f off : Nat} {ft : TypeId} (hf : fs[f]? = some (off, ft)) (gf : TGood P ft tf) (hz : tf.size ≠ 0) (ad : Addr) (w' : World) :
    (Instr.fieldAt t (.pointer (some ad)) f).run P w' = .ok (.pointer (some (ad.add off))) w' := by
  obtain ⟨gs, fd, hde, hgs, h1, h2⟩ := field_at g hu hf
  have hs := gf.sizeOf w'
  rw [← h2] at hs
  simp [Instr.fieldAt, run_underlying hde, hgs, Instr.sureAddr, fieldPlace, hs, hz, h1]

theorem fieldAddrV_sound (hG : TyOk P G) (H : Here S a w F e) {T : TypeId} {A : Operand} {f : Nat} {q : AV → Prop} {o : Oper} (ho : o.op = .fieldAddr T A f) (h : fieldAddrV G S T (S.ev A) f q) : Sound1 X P o a w F e q := by
  have hx := H.ev A
  unfold fieldAddrV at h
  split at h
  case h_2 => exact h.elim
  rename_i ti ht
  split at h
  case h_2 => exact h.elim
  rename_i fs hu
  split at h
  case h_2 => exact h.elim
  rename_i off ft hf
  split at h
  case h_2 => exact h.elim
  rename_i tf htf
  obtain ⟨hz, h⟩ := h.len
  have hz : tf.size ≠ 0 := by omega
  have fin : ∀ (ad : Addr), a.eval A = .pointer (some ad) → Yields1 X P o a w (.pointer (some (ad.add off))) := by
    intro ad hA w' _
    simp [execOp, ho, hA, run_fieldAt (hG.get ht) hu hf (hG.get htf) hz ad w']
  split at h
  · rename_i ob k h1
    rw [h1] at hx
    obtain ⟨hl, ex⟩ := hx.ptr_inv
    exact ⟨_, _, h, by rw [addr_add rfl]; exact .ptr hl, fin _ ex⟩
  · rename_i cs h1
    rw [h1] at hx
    obtain ⟨ad, vals, ex, hF, hsp, hcell, hrep⟩ := hx.eptr_inv
    refine ⟨_, _, h, ?_, fin _ ex⟩
    rw [addr_add hsp]
    refine .eptr _ (fun j => vals (off + j)) hF rfl (fun j s hj => ?_) (fun j s hj => ?_)
    · rw [List.getElem?_drop] at hj
      have := hcell _ s hj
      simpa [Nat.add_assoc] using this
    · rw [List.getElem?_drop] at hj
      exact hrep _ s hj
  · rename_i ob n sz i k h1
    rw [h1] at hx
    split at h
    case h_2 => exact h.elim
    rename_i el sz' xs hob
    obtain ⟨hn', h⟩ := h
    obtain ⟨hrl, _⟩ := H.heap.ob ob _ hob
    generalize hX : a.eval A = X at hx
    cases hx with
    | rptrold hl hn => omega
    | rptr hl hn hv =>
      refine ⟨_, _, h, ?_, fin _ hX⟩
      rw [addr_add rfl, Nat.add_assoc]
      exact .rptr hl hn hv
  · exact h.elim


theorem fieldV_sound (hG : TyOk P G) (H : Here S a w F e) {T : TypeId} {A : Operand} {f : Nat} {q : AV → Prop} {o : Oper} (ho : o.op = .field T A f) (h : fieldV G T (S.ev A) f q) : Sound1 X P o a w F e q := by
  have hx := H.ev A
  unfold fieldV at h
  split at h
  case h_2 => exact h.elim
  rename_i ti ht
  split at h
  case h_2 => exact h.elim
  rename_i fs hu
  split at h
  case h_2 => exact h.elim
  rename_i off ft hf
  split at h
  case h_2 => exact h.elim
  rename_i tf cs htf h1
  split at h
  case h_2 => exact h.elim
  rename_i r hr
  rw [h1] at hx
  obtain ⟨vs, ex, hsz, hrep⟩ := hx.agg_inv
  obtain ⟨x, hx', hrun⟩ := part_sound (hG.get htf) hr hsz hrep
  refine ⟨r, x, h, hx', fun w' _ => ?_⟩
  obtain ⟨gs, fd, hde, hgs, h2, h3⟩ := field_at (hG.get ht) hu hf
  have := hrun w'
  rw [← h2, ← h3] at this
  simp [execOp, ho, ex, Instr.field, run_underlying hde, hgs, asAgg, this]

theorem index_slice {t el : TypeId} {te : TI} (hde : P.underlying t = some (.slice el)) (ge : TGood P el te) (k : IntKind) (n : Int) (ad : Addr) (m c : Nat) (h0 : 0 ≤ n) (h1 : n < (m : Int)) (w' : World) :
    (Instr.indexAt t (.slice (some ad) m c) (.int k n)).run P w' = .ok (.pointer (some (ad.add (n.toNat * te.size)))) w' := by
  simp [Instr.indexAt, asIntOf, run_underlying hde, h0, h1, ge.sizeOf w']

theorem indexAddrV_sound (hG : TyOk P G) (H : Here S a w F e) {T : TypeId} {A I : Operand} {q : AV → Prop} {o : Oper} (ho : o.op = .indexAddr T A I) (h : indexAddrV G S T (S.ev A) (S.ev I) q) : Sound1 X P o a w F e q := by
  have hx := H.ev A
  have hi := H.ev I
  unfold indexAddrV at h
  split at h
  case h_2 => exact h.elim
  rename_i ti k n ht h2
  rw [h2] at hi
  have ei := hi.v_inv
  split at h
  · rename_i el hu
    have hde := (hG.get ht).slice hu
    split at h
    case h_2 => exact h.elim
    rename_i te hte
    have ge := hG.get hte
    split at h
    · rename_i xs h1
      rw [h1] at hx
      obtain ⟨h0, h⟩ := h
      obtain ⟨cs, hcs, hlen, hq⟩ := h.out
      generalize hX : a.eval A = X at hx
      cases hx with
      | @sl _ _ A' c sz ad vals hc hA hsz hone hcell hrep =>
        have hne : xs ≠ [] := by intro hh; subst hh; simp at hcs
        obtain ⟨hA1, hA2, hA3⟩ := hA hne
        subst hA1
        have hil : n.toNat < xs.length := (List.getElem?_eq_some_iff.1 hcs).1
        have hsz' : sz = te.size := by rw [← hsz _ _ hcs, hlen]
        subst hsz'
        refine ⟨_, .pointer (some (ad.add (n.toNat * te.size))), hq, ?_, fun w' _ => by simp [execOp, ho, hX, ei, index_slice hde ge k n ad xs.length c h0 (by omega) w']⟩
        rw [addr_add hA3]
        exact .eptr _ (fun j => vals n.toNat j) hA2 rfl (fun j s hj => hcell _ _ j s hcs hj) (fun j s hj => hrep _ _ j s hcs hj)
    · rename_i ob m h1
      rw [h1] at hx
      split at h
      · rename_i el' sz xs hob
        obtain ⟨hsz, h⟩ := h.eqn
        obtain ⟨⟨hm, h0, hlt⟩, hq⟩ := h
        obtain ⟨hrl, hown⟩ := H.heap.ob ob _ hob
        obtain ⟨_, hown⟩ := hown
        generalize hX : a.eval A = X at hx
        cases hx with
        | rowold _ hn => omega
        | @row _ _ _ A2 m2 c2 hl hn hv2 =>
          replace hX := hX.trans hv2.symm
          rcases hown with ⟨hnil, _⟩ | ⟨b, c, vs, hv, hF, hb, hvs, hle, hmx, hrep⟩
          · subst hnil; simp at hm; omega
          · refine ⟨_, _, hq, .rptr hl hn hv, fun w' _ => ?_⟩
            rw [hv] at hX
            have := index_slice (P := P) hde ge k n ⟨b, 0, none⟩ xs.length c h0 (by omega) w'
            rw [addr_add rfl] at this
            simp only [Nat.zero_add] at this
            simp [execOp, ho, hX, ei, this, hsz]
      · rename_i sz xs hob
        obtain ⟨hsz, h⟩ := h.eqn
        obtain ⟨⟨hm, h0, hlt⟩, h⟩ := h
        obtain ⟨cs, hcs, hq⟩ := h.out
        obtain ⟨hrl, hsz2, hsl⟩ := H.heap.ob ob _ hob
        generalize hX : a.eval A = X at hx
        cases hx with
        | rowold _ hn => omega
        | @row _ _ _ A2 m2 c2 hl hn hv2 =>
          replace hX := hX.trans hv2.symm
          clear hv2
          generalize e.rowv ob = X at hsl hX
          cases hsl with
          | @sl _ _ A' c sz3 ad vals hc hA hsz3 hone hcell hrep =>
            have hne : xs ≠ [] := by intro hh; subst hh; simp at hcs
            obtain ⟨hA1, hA2, hA3⟩ := hA hne
            subst hA1
            have hsz' : sz3 = te.size := by rw [← hsz3 _ _ hcs, ← hsz, hsz2 _ _ hcs]
            subst hsz'
            refine ⟨_, .pointer (some (ad.add (n.toNat * te.size))), hq, ?_, fun w' _ => by simp [execOp, ho, hX, ei, index_slice hde ge k n ad xs.length c h0 (by omega) w']⟩
            rw [addr_add hA3]
            exact .eptr _ (fun j => vals n.toNat j) hA2 rfl (fun j s hj => hcell _ _ j s hcs hj) (fun j s hj => hrep _ _ j s hcs hj)
      · exact h.elim
    · rename_i ob m sz lo hi h1
      rw [h1] at hx
      split at h
      case h_2 => exact h.elim
      rename_i el' sz' xs hob
      have hh := h.elim
      clear h
      obtain ⟨hz, ⟨⟨hm, h0, hlt⟩, hq⟩⟩ := hh
      simp only [Bool.and_eq_true] at hz
      have hsz := Nat.eq_of_beq_eq_true hz.1
      obtain ⟨hrl, hown⟩ := H.heap.ob ob _ hob
      obtain ⟨_, hown⟩ := hown
      generalize hX : a.eval A = X at hx
      cases hx with
      | vwold _ hn => omega
      | @vw _ _ _ _ _ _ b mm c off hl hn hv hle hhi hpos hoff =>
        rcases hown with ⟨hnil, _⟩ | ⟨b', c', vs, hv', hF, hb, hvs, hcap, hmx, hrep⟩
        · subst hnil; simp at hm; omega
        · rw [hv] at hv'
          injection hv' with hv' hmm hcc
          subst hcc
          refine ⟨_, _, hq, .rptr hl hn hv, fun w' _ => ?_⟩
          have := index_slice (P := P) hde ge k n ⟨b, off, none⟩ (hi - lo) (c - lo) h0 hlt w'
          rw [hoff (by omega)] at hX this
          rw [addr_add rfl] at this
          have e1 : (lo + n.toNat) * sz + 0 = lo * sz + n.toNat * te.size := by rw [Nat.add_mul, hsz]; rfl
          rw [e1]
          simp [execOp, ho, hX, ei, this]
    · exact h.elim
  · rename_i len el hu
    have hde := (hG.get ht).arr hu
    split at h
    case h_2 => exact h.elim
    rename_i te hte
    have ge := hG.get hte
    split at h
    · rename_i ob kk h1
      rw [h1] at hx
      obtain ⟨⟨h0, hlt⟩, hq⟩ := h
      obtain ⟨hl, ex⟩ := hx.ptr_inv
      refine ⟨_, .pointer (some ⟨e.blk ob, kk + n.toNat * te.size, none⟩), hq, .ptr hl, fun w' _ => ?_⟩
      simp [execOp, ho, ex, ei, Instr.indexAt, asIntOf, run_underlying hde, Instr.sureAddr, h0, hlt, ge.sizeOf w', addr_add]
    · rename_i ob m sz i off h1
      rw [h1] at hx
      split at h
      case h_2 => exact h.elim
      rename_i el' sz' xs hob
      have hh := h.elim
      clear h
      obtain ⟨hz, ⟨⟨hm, hml, h0, hlt⟩, hq⟩⟩ := hh
      simp only [Bool.and_eq_true] at hz
      have z1 := Nat.eq_of_beq_eq_true hz.1.1.1
      have z3 := Nat.eq_of_beq_eq_true hz.1.2
      have z4 := Nat.eq_of_beq_eq_true hz.2
      subst z3; subst z4
      obtain ⟨hrl, _⟩ := H.heap.ob ob _ hob
      generalize hX : a.eval A = X at hx
      cases hx with
      | rptrold _ hn => omega
      | @rptr _ _ _ _ _ _ b mm c hl hn hv =>
        refine ⟨_, .pointer (some ⟨b, n.toNat * sz + 0, none⟩), hq, .rptr hl hn hv, fun w' _ => ?_⟩
        have hlt' : n < (len : Int) := by omega
        simp [execOp, ho, hX, ei, Instr.indexAt, asIntOf, run_underlying hde, Instr.sureAddr, h0, hlt', ge.sizeOf w', addr_add, z1]
    · exact h.elim
  · exact h.elim

theorem indexV_sound (hG : TyOk P G) (H : Here S a w F e) {T : TypeId} {A I : Operand} {q : AV → Prop} {o : Oper} (ho : o.op = .index T A I) (h : indexV G T (S.ev A) (S.ev I) q) : Sound1 X P o a w F e q := by
  have hx := H.ev A
  have hi := H.ev I
  unfold indexV at h
  split at h
  case h_2 => exact h.elim
  rename_i ti k n ht h2
  rw [h2] at hi
  have ei := hi.v_inv
  split at h
  case h_2 => exact h.elim
  rename_i s hu h1
  rw [h1] at hx
  have ex := hx.v_inv
  have hde := (hG.get ht).str hu
  obtain ⟨⟨h0, hlt⟩, hq⟩ := h
  refine ⟨_, _, hq, .v, fun w' _ => ?_⟩
  have : s[n.toNat]? = some (byteAt s n.toNat) := by
    rw [getElem?_pos s n.toNat hlt]
    simp [byteAt, hlt]
  simp [execOp, ho, ex, ei, Instr.index, asIntOf, run_underlying hde, h0, this]

theorem boundV_inv {x : Option Operand} {d : Int} {q : Int → Prop} (H : Here S a w F e) (h : boundV (x.map S.ev) d q) :
    ∃ n, q n ∧ (x = none ∧ n = d ∨ ∃ A k, x = some A ∧ a.eval A = .int k n) := by
  cases x with
  | none => exact ⟨d, h, .inl ⟨rfl, rfl⟩⟩
  | some A =>
    have hx := H.ev A
    simp only [Option.map_some, boundV] at h
    split at h
    · rename_i hh; cases hh
    · rename_i k n h1
      injection h1 with h1
      rw [h1] at hx
      exact ⟨_, h, .inr ⟨A, k, rfl, hx.v_inv⟩⟩
    · exact h.elim

theorem bounds_run {isSlice : Bool} {lo hi : Option Operand} {l h : Int} {len cap : Nat} (hc : len ≤ cap) (hl : lo = none ∧ l = 0 ∨ ∃ A k, lo = some A ∧ a.eval A = .int k l)
    (hh : hi = none ∧ h = len ∨ ∃ A k, hi = some A ∧ a.eval A = .int k h) (h0 : 0 ≤ l) (h1 : l ≤ h) (h2 : h ≤ len) (w' : World) :
    (Instr.sliceBounds isSlice len cap (lo.map a.eval) (hi.map a.eval) none).run P w' = .ok (l.toNat, h.toNat, cap) w' := by
  have hb : ∀ (x : Value) (k : IntKind) (n : Int) (y : Nat) (c : BoundsCode), x = .int k n → 0 ≤ n → n ≤ y → (Instr.sliceBound x y c).run P w' = .ok n.toNat w' := by
    intro x k n y c hx p1 p2
    subst hx
    simp [Instr.sliceBound, asIntOf, p1, p2]
  unfold Instr.sliceBounds
  rcases hh with ⟨rfl, rfl⟩ | ⟨B, kb, rfl, hB⟩
  · rcases hl with ⟨rfl, rfl⟩ | ⟨A, ka, rfl, hA⟩
    · simp
    · simp [hb _ ka l len .sliceB hA h0 (by omega)]
  · rcases hl with ⟨rfl, rfl⟩ | ⟨A, ka, rfl, hA⟩
    · simp [hb _ kb h cap _ hB (by omega) (by omega)]
    · simp [hb _ kb h cap _ hB (by omega) (by omega), hb _ ka l h.toNat .sliceB hA h0 (by omega)]

theorem sliceV_sound (hG : TyOk P G) (H : Here S a w F e) {T : TypeId} {A : Operand} {lo hi : Option Operand} {q : AV → Prop} {o : Oper} (ho : o.op = .slice T A lo hi none) (h : sliceV G S T (S.ev A) (lo.map S.ev) (hi.map S.ev) q) : Sound1 X P o a w F e q := by
  have hx := H.ev A
  unfold sliceV at h
  split at h
  case h_2 => exact h.elim
  rename_i ti ht
  split at h
  · rename_i s hu h1
    rw [h1] at hx
    have ex := hx.v_inv
    have hde := (hG.get ht).str hu
    obtain ⟨l, h, hl⟩ := boundV_inv H h
    obtain ⟨hh, h, hhi⟩ := boundV_inv H h
    obtain ⟨⟨h0, h1', h2⟩, hq⟩ := h
    refine ⟨_, _, hq, .v, fun w' _ => ?_⟩
    have := bounds_run (P := P) (isSlice := false) (len := s.size) (cap := s.size) (Nat.le_refl _) hl hhi h0 h1' h2 w'
    have hat : (Instr.sliceAt T (a.eval A) (lo.map a.eval) (hi.map a.eval) none).run P w' = .ok (.string (s.extract l.toNat hh.toNat)) w' := by
      simp [Instr.sliceAt, run_underlying hde, ex, Instr.slice, this]
    simp [execOp, ho, hat]
  · rename_i el xs hu h1
    rw [h1] at hx
    have hde := (hG.get ht).slice hu
    split at h
    case h_2 => exact h.elim
    rename_i te hte
    have ge := hG.get hte
    obtain ⟨hall, h⟩ := h
    obtain ⟨l, h, hl⟩ := boundV_inv H h
    obtain ⟨hh, h, hhi⟩ := boundV_inv H h
    obtain ⟨⟨h0, h1', h2⟩, hq⟩ := h
    generalize hX : a.eval A = X at hx
    cases hx with
    | @sl _ _ A' c sz ad vals hc hA hsz hone hcell hrep =>
      have := fun w' => bounds_run (P := P) (isSlice := true) (len := xs.length) (cap := c) hc hl hhi h0 h1' h2 w'
      have hlen : ((xs.take hh.toNat).drop l.toNat).length = hh.toNat - l.toNat := by
        rw [List.length_drop, List.length_take]; omega
      refine ⟨_, .slice (if c = l.toNat then A' else A'.map (·.add (l.toNat * te.size))) ((xs.take hh.toNat).drop l.toNat).length (c - l.toNat), hq, ?_, fun w' _ => ?_⟩
      · refine .sl sz (ad.add (l.toNat * te.size)) (fun i j => vals (l.toNat + i) j) (by rw [hlen]; omega) (fun hne => ?_) (fun i cs hi' => ?_) (fun i cs hi' => ?_) (fun i cs j s hi' hj => ?_) (fun i cs j s hi' hj => ?_)
        · have hxs : xs ≠ [] := by intro hh; subst hh; simp at hne
          obtain ⟨hA1, hA2, hA3⟩ := hA hxs
          have hpos : 0 < ((xs.take hh.toNat).drop l.toNat).length := List.length_pos_iff.2 hne
          rw [hlen] at hpos
          rw [if_neg (by omega), hA1]
          refine ⟨rfl, ?_, ?_⟩
          · rw [addr_add hA3]; exact hA2
          · rw [addr_add hA3]
        all_goals
          have hlt : l.toNat + i < hh.toNat := by
            have := (List.getElem?_eq_some_iff.1 hi').1
            rw [hlen] at this
            omega
          have hi2 : xs[l.toNat + i]? = some cs := by
            rw [List.getElem?_drop, List.getElem?_take_of_lt hlt] at hi'
            exact hi'
        · exact hsz _ _ hi2
        · exact hone _ _ hi2
        · have hxs : xs ≠ [] := by intro hh; subst hh; simp at hi2
          obtain ⟨hA1, hA2, hA3⟩ := hA hxs
          have hsz' : sz = te.size := by rw [← hsz _ _ hi2]; exact hall _ (List.mem_of_getElem? hi2)
          subst hsz'
          have := hcell _ cs j s hi2 hj
          rw [addr_add hA3]
          simp only
          rw [Nat.add_mul, ← Nat.add_assoc] at this
          exact this
        · exact hrep _ cs j s hi2 hj
      · have hat : (Instr.sliceAt T (.slice A' xs.length c) (lo.map a.eval) (hi.map a.eval) none).run P w' = .ok (.slice (if c = l.toNat then A' else A'.map (·.add (l.toNat * te.size))) (hh.toNat - l.toNat) (c - l.toNat)) w' := by
          simp [Instr.sliceAt, run_underlying hde, Instr.slice, ge.sizeOf w', this w']
        simp [execOp, ho, hX, hat, hlen]
  · rename_i el ob m hu h1
    rw [h1] at hx
    have hde := (hG.get ht).slice hu
    split at h
    case h_2 => exact h.elim
    rename_i te el' sz xs hte hob
    have ge := hG.get hte
    have hh := h.eqn
    clear h
    obtain ⟨hsz, ⟨⟨hm, hpos⟩, h⟩⟩ := hh
    obtain ⟨l, h, hl⟩ := boundV_inv H h
    obtain ⟨hh, h, hhi⟩ := boundV_inv H h
    obtain ⟨⟨h0, h1', h2⟩, hq⟩ := h
    obtain ⟨hrl, hown⟩ := H.heap.ob ob _ hob
    obtain ⟨_, hown⟩ := hown
    generalize hX : a.eval A = X at hx
    cases hx with
    | rowold _ hn => omega
    | @row _ _ _ A2 m2 c2 hlt hn hv2 =>
      rcases hown with ⟨hnil, _⟩ | ⟨b, c, vs, hv, hF, hb, hvs, hle, hmx, hrep⟩
      · subst hnil; simp at hm; omega
      · rw [hv] at hv2
        injection hv2 with e1 e2 e3
        subst e1 e2 e3
        refine ⟨_, .slice (some ⟨b, if c = l.toNat then 0 else l.toNat * sz, none⟩) (hh.toNat - l.toNat) (c - l.toNat), hq, .vw hlt hn hv (by omega) (by omega) (by omega) (fun h => if_neg (by omega)), fun w' _ => ?_⟩
        rw [hm] at hhi h2
        have hbr := bounds_run (P := P) (isSlice := true) (len := xs.length) (cap := c) hle hl hhi h0 h1' h2 w'
        have hat : (Instr.sliceAt T (.slice (some ⟨b, 0, none⟩) xs.length c) (lo.map a.eval) (hi.map a.eval) none).run P w' = .ok (.slice (if c = l.toNat then some ⟨b, 0, none⟩ else some ((⟨b, 0, none⟩ : Addr).add (l.toNat * te.size))) (hh.toNat - l.toNat) (c - l.toNat)) w' := by
          simp [Instr.sliceAt, run_underlying hde, Instr.slice, ge.sizeOf w', hbr]
        have e3 : (if c = l.toNat then some (⟨b, 0, none⟩ : Addr) else some ((⟨b, 0, none⟩ : Addr).add (l.toNat * te.size))) = some ⟨b, if c = l.toNat then 0 else l.toNat * sz, none⟩ := by
          rw [addr_add rfl, hsz]
          split <;> simp
        rw [e3] at hat
        simp [execOp, ho, hX, hat]
  · rename_i el ob m sz aa bb hu h1
    rw [h1] at hx
    have hde := (hG.get ht).slice hu
    split at h
    case h_2 => exact h.elim
    rename_i te el' sz' xs hte hob
    have ge := hG.get hte
    have hh := h.elim
    clear h
    obtain ⟨hz, ⟨hm, h⟩⟩ := hh
    simp only [Bool.and_eq_true] at hz
    have hsz := Nat.eq_of_beq_eq_true hz.1
    obtain ⟨l, h, hl⟩ := boundV_inv H h
    obtain ⟨hh, h, hhi⟩ := boundV_inv H h
    obtain ⟨⟨h0, h1', h2⟩, hq⟩ := h
    obtain ⟨hrl, hown⟩ := H.heap.ob ob _ hob
    obtain ⟨_, hown⟩ := hown
    generalize hX : a.eval A = X at hx
    cases hx with
    | vwold _ hn => omega
    | @vw _ _ _ _ _ _ b mm c off hlt hn hv hle hhi2 hpos hoff =>
      rcases hown with ⟨hnil, _⟩ | ⟨b', c', vs, hv', hF, hb, hvs, hcap, hmx, hrep⟩
      · subst hnil; simp at hm; omega
      · rw [hv] at hv'
        injection hv' with hv' hmm hcc
        subst hcc
        refine ⟨_, .slice (some ⟨b, if c - aa = l.toNat then off else off + l.toNat * te.size, none⟩) (aa + hh.toNat - (aa + l.toNat)) (c - (aa + l.toNat)), hq, .vw hlt hn hv (by omega) (by omega) hpos (fun h => by rw [if_neg (by omega), hoff (by omega), Nat.add_mul, hsz]), fun w' _ => ?_⟩
        have hbr : (Instr.sliceBounds true (bb - aa) (c - aa) (lo.map a.eval) (hi.map a.eval) none).run P w' = .ok (l.toNat, hh.toNat, c - aa) w' := by
          have hb : ∀ (x : Value) (k : IntKind) (n : Int) (y : Nat) (c : BoundsCode), x = .int k n → 0 ≤ n → n ≤ y → (Instr.sliceBound x y c).run P w' = .ok n.toNat w' := by
            intro x k n y c hx p1 p2
            subst hx
            simp [Instr.sliceBound, asIntOf, p1, p2]
          unfold Instr.sliceBounds
          rcases hhi with ⟨rfl, rfl⟩ | ⟨B, kb, rfl, hB⟩
          · rcases hl with ⟨rfl, rfl⟩ | ⟨A, ka, rfl, hA⟩
            · simp
            · simp [hb _ ka l (bb - aa) .sliceB hA h0 (by omega)]
          · rcases hl with ⟨rfl, rfl⟩ | ⟨A, ka, rfl, hA⟩
            · simp [hb _ kb hh (c - aa) _ hB (by omega) (by omega)]
            · simp [hb _ kb hh (c - aa) _ hB (by omega) (by omega), hb _ ka l hh.toNat .sliceB hA h0 (by omega)]
        have hat : (Instr.sliceAt T (.slice (some ⟨b, off, none⟩) (bb - aa) (c - aa)) (lo.map a.eval) (hi.map a.eval) none).run P w' = .ok (.slice (if c - aa = l.toNat then some ⟨b, off, none⟩ else some ((⟨b, off, none⟩ : Addr).add (l.toNat * te.size))) (hh.toNat - l.toNat) (c - aa - l.toNat)) w' := by
          simp [Instr.sliceAt, run_underlying hde, Instr.slice, ge.sizeOf w', hbr]
        have e3 : (if c - aa = l.toNat then some (⟨b, off, none⟩ : Addr) else some ((⟨b, off, none⟩ : Addr).add (l.toNat * te.size))) = some ⟨b, if c - aa = l.toNat then off else off + l.toNat * te.size, none⟩ := by
          rw [addr_add rfl]
          split <;> simp
        rw [e3] at hat
        have e4 : aa + hh.toNat - (aa + l.toNat) = hh.toNat - l.toNat := by omega
        have e5 : c - (aa + l.toNat) = c - aa - l.toNat := by omega
        rw [e4, e5]
        simp [execOp, ho, hX, hat]
  · rename_i len el ob m sz i off hu h1
    rw [h1] at hx
    have hde := (hG.get ht).arr hu
    split at h
    case h_2 => exact h.elim
    rename_i te sz' xs hte hob
    have ge := hG.get hte
    have hh := h.elim
    clear h
    obtain ⟨hz, ⟨⟨hm, hml, hpos⟩, h⟩⟩ := hh
    simp only [Bool.and_eq_true] at hz
    have z1 := Nat.eq_of_beq_eq_true hz.1.1.1
    have z2 := Nat.eq_of_beq_eq_true hz.1.1.2
    have z3 := Nat.eq_of_beq_eq_true hz.1.2
    have z4 := Nat.eq_of_beq_eq_true hz.2
    subst z3; subst z4; subst z2; subst hml
    obtain ⟨l, h, hl⟩ := boundV_inv H h
    obtain ⟨hh, h, hhi⟩ := boundV_inv H h
    obtain ⟨⟨h0, h1', h2⟩, hq⟩ := h
    obtain ⟨hrl, hszz, hsl⟩ := H.heap.ob ob _ hob
    generalize hX : a.eval A = X at hx
    cases hx with
    | rptrold _ hn => omega
    | @rptr _ _ _ _ _ _ b mm c hlo hn hv =>
      rw [hv] at hsl
      generalize hY : (Value.slice (some ⟨b, 0, none⟩) mm c) = Y at hsl
      cases hsl with
      | @sl _ _ A' c' sz3 ad vals hc hA hsz hone hcell hrep =>
        have hne : xs ≠ [] := by intro hh; subst hh; simp at hm; omega
        obtain ⟨hA1, hA2, hA3⟩ := hA hne
        injection hY with hY _ _
        rw [hA1] at hY
        injection hY with hY
        subst hY
        have := fun w' => bounds_run (P := P) (isSlice := false) (len := m) (cap := m) (Nat.le_refl _) hl hhi h0 h1' h2 w'
        have hlen : ((xs.take hh.toNat).drop l.toNat).length = hh.toNat - l.toNat := by
          rw [List.length_drop, List.length_take]; omega
        have hX' : a.eval A = .pointer (some ⟨b, 0, none⟩) := by rw [hX]; simp
        have hs3 : sz3 = sz' := by
          obtain ⟨x, hx⟩ : ∃ x, xs[0]? = some x := ⟨_, List.getElem?_eq_getElem (by omega)⟩
          rw [← hsz 0 x hx, hszz 0 x hx]
        subst hs3
        refine ⟨_, .slice (some (if m = l.toNat then ⟨b, 0, none⟩ else (⟨b, 0, none⟩ : Addr).add (l.toNat * te.size))) ((xs.take hh.toNat).drop l.toNat).length (m - l.toNat), hq, ?_, fun w' _ => ?_⟩
        · refine .sl sz3 ((⟨b, 0, none⟩ : Addr).add (l.toNat * sz3)) (fun i j => vals (l.toNat + i) j) (by rw [hlen]; omega) (fun hne => ?_) (fun i cs hi' => ?_) (fun i cs hi' => ?_) (fun i cs j s hi' hj => ?_) (fun i cs j s hi' hj => ?_)
          · have hpos : 0 < ((xs.take hh.toNat).drop l.toNat).length := List.length_pos_iff.2 hne
            rw [hlen] at hpos
            rw [if_neg (by omega)]
            refine ⟨by rw [← z1], ?_, ?_⟩
            · rw [addr_add rfl]; exact hA2
            · rw [addr_add rfl]
          all_goals
            have hlt : l.toNat + i < hh.toNat := by
              have := (List.getElem?_eq_some_iff.1 hi').1
              rw [hlen] at this
              omega
            have hi2 : xs[l.toNat + i]? = some cs := by
              rw [List.getElem?_drop, List.getElem?_take_of_lt hlt] at hi'
              exact hi'
          · exact hsz _ _ hi2
          · exact hone _ _ hi2
          · have := hcell _ cs j s hi2 hj
            rw [addr_add rfl]
            simp only
            rw [Nat.add_mul, ← Nat.add_assoc] at this
            exact this
          · exact hrep _ cs j s hi2 hj
        · have hat : (Instr.sliceAt T (.pointer (some ⟨b, 0, none⟩)) (lo.map a.eval) (hi.map a.eval) none).run P w' = .ok (.slice (some (if m = l.toNat then ⟨b, 0, none⟩ else (⟨b, 0, none⟩ : Addr).add (l.toNat * te.size))) (hh.toNat - l.toNat) (m - l.toNat)) w' := by
            simp [Instr.sliceAt, run_underlying hde, Instr.sureAddr, ge.sizeOf w', this w']
          simp [execOp, ho, hX', hat, hlen]
  · exact h.elim


theorem slice3V_sound (hG : TyOk P G) (H : Here S a w F e) {T : TypeId} {A M : Operand} {lo hi : Option Operand} {q : AV → Prop} {o : Oper} (ho : o.op = .slice T A lo hi (some M)) (h : slice3V G S T (S.ev A) (lo.map S.ev) (hi.map S.ev) (S.ev M) q) : Sound1 X P o a w F e q := by
  have hx := H.ev A
  have hM := H.ev M
  unfold slice3V at h
  split at h
  case h_2 => exact h.elim
  rename_i ti ht
  split at h
  case h_2 => exact h.elim
  rename_i el ob m k mx hu h1 h2
  rw [h1] at hx
  rw [h2] at hM
  have eM := hM.v_inv
  have hde := (hG.get ht).slice hu
  split at h
  case h_2 => exact h.elim
  rename_i te el' sz xs hte hob
  have ge := hG.get hte
  obtain ⟨hm, h⟩ := h
  obtain ⟨l, h, hl⟩ := boundV_inv H h
  obtain ⟨hh, h, hhi⟩ := boundV_inv H h
  obtain ⟨⟨hne, h0, h1', h2', h3⟩, hq⟩ := h
  obtain ⟨hrl, hown⟩ := H.heap.ob ob _ hob
  obtain ⟨_, hown⟩ := hown
  obtain ⟨B, kb, hBe, hB⟩ : ∃ B k, hi = some B ∧ a.eval B = .int k hh := by
    rcases hhi with ⟨rfl, _⟩ | h
    · simp at hne
    · exact h
  subst hBe
  generalize hX : a.eval A = X at hx
  cases hx with
  | rowold _ hn => omega
  | @row _ _ _ A2 m2 c2 hlt hn hv2 =>
    have hcap : ∃ n2 : Nat, m2 = n2 ∧ m = m2 ∧ m ≤ c2 := by
      rcases hown with ⟨hnil, hv⟩ | ⟨b, c, vs, hv, hF, hb, hvs, hle, hmx, hrep⟩
      · rw [hv] at hv2
        injection hv2 with e1 e2 e3
        subst e1 e2 e3 hnil
        simp at hm
        exact ⟨0, rfl, hm, by omega⟩
      · rw [hv] at hv2
        injection hv2 with e1 e2 e3
        subst e1 e2 e3
        exact ⟨_, rfl, hm, by omega⟩
    obtain ⟨_, _, hmm, hle⟩ := hcap
    refine ⟨_, .slice (if mx.toNat = l.toNat then A2 else A2.map (·.add (l.toNat * te.size))) (hh.toNat - l.toNat) (mx.toNat - l.toNat), hq, .dead, fun w' _ => ?_⟩
    have hb : ∀ (x : Value) (k : IntKind) (n : Int) (y : Nat) (c : BoundsCode), x = .int k n → 0 ≤ n → n ≤ y → (Instr.sliceBound x y c).run P w' = .ok n.toNat w' := by
      intro x k n y c hx p1 p2
      subst hx
      simp [Instr.sliceBound, asIntOf, p1, p2]
    have hbr : (Instr.sliceBounds true m2 c2 (lo.map a.eval) (some (a.eval B)) (some (a.eval M))).run P w' = .ok (l.toNat, hh.toNat, mx.toNat) w' := by
      unfold Instr.sliceBounds
      rcases hl with ⟨rfl, rfl⟩ | ⟨L, ka, rfl, hA⟩
      · simp [hb _ k mx c2 _ eM (by omega) (by omega), hb _ kb hh mx.toNat _ hB (by omega) (by omega)]
      · simp [hb _ k mx c2 _ eM (by omega) (by omega), hb _ kb hh mx.toNat _ hB (by omega) (by omega), hb _ ka l hh.toNat _ hA h0 (by omega)]
    have hat : (Instr.sliceAt T (.slice A2 m2 c2) (lo.map a.eval) (some (a.eval B)) (some (a.eval M))).run P w' = .ok (.slice (if mx.toNat = l.toNat then A2 else A2.map (·.add (l.toNat * te.size))) (hh.toNat - l.toNat) (mx.toNat - l.toNat)) w' := by
      simp [Instr.sliceAt, run_underlying hde, Instr.slice, ge.sizeOf w', hbr]
    simp [execOp, ho, hX, hat]

theorem lenV_sound (hG : TyOk P G) (H : Here S a w F e) {T : TypeId} {A : Operand} {q : AV → Prop} {o : Oper} (ho : o.op = .call { callee := .builtin .len, args := #[A], argTypes := #[T] }) (h : lenV G S T (S.ev A) q) : Sound1 X P o a w F e q := by
  have hx := H.ev A
  have fin : ∀ (n : Nat), (∀ w', (Builtin.len_ #[T] o.type #[a.eval A]).run P w' = .ok (goInt n) w') → Yields1 X P o a w (.int .i64 n) := by
    intro n hr w' _
    simp [execOp, ho, resolve, invoke, builtin, hr w', goInt]
  unfold lenV at h
  split at h
  case h_2 => exact h.elim
  rename_i ti ht
  split at h
  · rename_i s hu h1
    rw [h1] at hx
    have hde := (hG.get ht).str hu
    exact ⟨_, _, h, .v, fin _ fun w' => by simp [Builtin.len_, run_underlying hde, hx.v_inv]⟩
  · rename_i el xs hu h1
    rw [h1] at hx
    have hde := (hG.get ht).slice hu
    obtain ⟨A', c, ex, _⟩ := hx.sl_inv
    exact ⟨_, _, h, .v, fin _ fun w' => by simp [Builtin.len_, run_underlying hde, ex]⟩
  · rename_i el ob n hu h1
    rw [h1] at hx
    have hde := (hG.get ht).slice hu
    split at h
    case h_3 => exact h.elim
    · rename_i el' sz xs hob
      obtain ⟨hn, h⟩ := h
      obtain ⟨hrl, hown⟩ := H.heap.ob ob _ hob
      obtain ⟨_, hown⟩ := hown
      generalize hX : a.eval A = X at hx
      cases hx with
      | rowold _ hn => omega
      | @row _ _ _ A2 m2 c2 hl hn hv2 =>
        replace hX := hX.trans hv2.symm
        rw [hn] at h
        rcases hown with ⟨hnil, hv⟩ | ⟨b, c, vs, hv, _⟩
        · refine ⟨_, _, h, .v, fin _ fun w' => ?_⟩
          rw [hX, hv, hrl, hnil]; simp [Builtin.len_, run_underlying hde]
        · refine ⟨_, _, h, .v, fin _ fun w' => ?_⟩
          rw [hX, hv, hrl]; simp [Builtin.len_, run_underlying hde]
    · rename_i sz xs hob
      obtain ⟨hn, h⟩ := h
      obtain ⟨hrl, _, hsl⟩ := H.heap.ob ob _ hob
      generalize hX : a.eval A = X at hx
      cases hx with
      | rowold _ hn => omega
      | @row _ _ _ A2 m2 c2 hl hn hv2 =>
        replace hX := hX.trans hv2.symm
        rw [hn] at h
        obtain ⟨A', c, ex, _⟩ := hsl.sl_inv
        refine ⟨_, _, h, .v, fin _ fun w' => ?_⟩
        rw [hX, ex, hrl]; simp [Builtin.len_, run_underlying hde]
  · rename_i el hu h1
    rw [h1] at hx
    have hde := (hG.get ht).slice hu
    exact ⟨_, _, h, .v, fin 0 fun w' => by simp [Builtin.len_, run_underlying hde, hx.v_inv]⟩
  · rename_i el ob n sz lo hi hu h1
    rw [h1] at hx
    have hde := (hG.get ht).slice hu
    split at h
    case h_2 => exact h.elim
    rename_i el' sz' xs hob
    obtain ⟨hn, h⟩ := h
    obtain ⟨hrl, hown⟩ := H.heap.ob ob _ hob
    generalize hX : a.eval A = X at hx
    cases hx with
    | vwold _ hn => omega
    | vw hl hn hv hle hhi hpos hoff =>
      refine ⟨_, _, h, .v, fin (hi - lo) fun w' => ?_⟩
      rw [hX]; simp [Builtin.len_, run_underlying hde]
  · exact h.elim

theorem minmaxV_sound (H : Here S a w F e) {mx : Bool} {A B : Operand} {ts : Array TypeId} {q : AV → Prop} {o : Oper} (ho : o.op = .call { callee := .builtin (if mx then .max else .min), args := #[A, B], argTypes := ts }) (h : minmaxV mx (S.ev A) (S.ev B) q) : Sound1 X P o a w F e q := by
  have hx := H.ev A
  have hy := H.ev B
  unfold minmaxV at h
  split at h
  case h_2 => exact h.elim
  rename_i k m k' n h1 h2
  rw [h1] at hx; rw [h2] at hy
  refine ⟨_, _, h, .v, fun w' _ => ?_⟩
  cases mx
  · simp [execOp, ho, resolve, invoke, builtin, hx.v_inv, hy.v_inv, Builtin.min_, Builtin.min2]
  · simp [execOp, ho, resolve, invoke, builtin, hx.v_inv, hy.v_inv, Builtin.max_, Builtin.max2]

theorem conv_bytes {T dst el : TypeId} {ti td te : TI} (g1 : P.underlying T = some (.slice el)) (g2 : P.underlying el = some (.int .u8)) (g3 : P.underlying dst = some .string) {b off m c : Nat} {l : List Int} (hm : m = l.length)
    (hcell : ∀ (i : Nat) n, l[i]? = some n → w.cell? ⟨b, off + i, none⟩ = some (.int .u8 n)) (hX : ∀ b, ¬ X b) (w' : World) (hw : Agree X w w') :
    (convert T dst (.slice (some ⟨b, off, none⟩) m c)).run P w' = .ok (.string (ofInts l)) w' := by
  rw [run_convert_bytes_string w' T dst el _ _ _ g1 g2 g3]
  refine run_bytesToString w' _ m c l ?_
  rw [hm, ← List.length_map (f := Value.int .u8)]
  refine run_loadCells_list w' _ _ (fun j v hj => ?_)
  rw [List.getElem?_map] at hj
  cases hg : l[j]? with
  | none => rw [hg] at hj; cases hj
  | some n =>
    rw [hg] at hj
    injection hj with hj
    subst hj
    have := hw.cell (hX _) (hcell j n hg)
    rw [show (⟨b, off, none⟩ : Addr).add j = ⟨b, off + j, none⟩ from addr_add rfl j]
    exact this
theorem convV_sound (hG : TyOk P G) (H : Here S a w F e) {s d : TypeId} {A : Operand} {q : AV → Prop} {o : Oper} (ho : o.op = .convert s d A) (hok : XOk X F e S o.op) (h : convV G S s d (S.ev A) q) : Sound1 X P o a w F e q := by
  have hx := H.ev A
  unfold convV at h
  split at h
  case h_2 => exact h.elim
  rename_i ts td hs hd
  obtain ⟨ds, hds, _⟩ := (hG.get hs).und
  split at h
  · rename_i k k' n hu h1
    rw [h1] at hx
    have hde := (hG.get hd).int hu
    refine ⟨_, _, h, .v, fun w' _ => ?_⟩
    simp [execOp, ho, convert, run_underlying hds, run_underlying hde, hx.v_inv, Conv.intToInt]
  · rename_i z hu h1
    rw [h1] at hx
    have hde := (hG.get hd).str hu
    refine ⟨_, _, h, .v, fun w' _ => ?_⟩
    cases ds <;> simp [execOp, ho, convert, run_underlying hds, run_underlying hde, hx.v_inv]
  · rename_i x hu hno
    have hde := (hG.get hd).str hu
    split at h
    case h_2 => exact h.elim
    rename_i el hsl
    have hse := (hG.get hs).slice hsl
    split at h
    case h_2 => exact h.elim
    rename_i te hte
    split at h
    case h_2 => exact h.elim
    rename_i hu8
    have hee := (hG.get hte).int hu8
    have fin : ∀ (b off m c : Nat) (l : List Int), a.eval A = .slice (some ⟨b, off, none⟩) m c → m = l.length → (∀ (i : Nat) n, l[i]? = some n → w.cell? ⟨b, off + i, none⟩ = some (.int .u8 n)) → (∀ b, ¬ X b) → Yields1 X P o a w (.string (ofInts l)) := by
      intro b off m c l hA hm hcell hX w' hw
      have := conv_bytes (ti := ts) (td := td) (te := te) hse hee hde (c := c) hm hcell hX w' hw
      simp [execOp, ho, hA, this]
    have nil : ∀ (m c : Nat), a.eval A = .slice none m c → Yields1 X P o a w (.string (ofInts [])) := by
      intro m c hA w' hw
      have := run_convert_bytes_string w' s d el none m c hse hee hde
      simp [execOp, ho, hA, this, Conv.bytesToString, ofInts]
    have hX : (∀ v, S.ev A ≠ .v v) → ∀ b, ¬ X b := fun hn => by
      rcases hok.cnv _ _ _ ho with ⟨v, hv⟩ | h
      · exact absurd hv (hn v)
      · exact h
    unfold bytesV at h
    split at h
    · rename_i xs h1
      obtain ⟨l, hl, h⟩ := h.out
      have hXb := hX (fun v hv => by rw [h1] at hv; cases hv)
      rw [h1] at hx
      generalize hAe : a.eval A = y at hx
      cases hx with
      | @sl _ _ A' c sz ad vals hc hA hsz hone hcell hrep =>
        by_cases hne : xs = []
        · subst hne
          have : l = [] := by cases l with | nil => rfl | cons x r => cases hl
          subst this
          cases A' with
          | none => exact ⟨_, _, h, .v, nil _ _ hAe⟩
          | some ad' =>
            refine ⟨_, _, h, .v, fun w' hw => ?_⟩
            have e1 := run_convert_bytes_string w' s d el (some ad') 0 c hse hee hde
            have e2 := run_bytesToString (P := P) w' ad' 0 c [] (run_loadCells_list w' ad' [] (fun j v hj => by simp at hj))
            simp [execOp, ho, hAe, e1, e2, ofInts]
        · obtain ⟨rfl, hF, hsp⟩ := hA hne
          have had : ad = ⟨ad.block, ad.off, none⟩ := by cases ad; simp_all
          have h1sz : sz = 1 := by
            cases l with
            | nil => exact absurd hl hne
            | cons n r2 => exact (hsz 0 [.v (.int .u8 n)] (by rw [hl]; rfl)).symm
          subst h1sz
          refine ⟨_, _, h, .v, fin ad.block ad.off xs.length c l (by rw [hAe, ← had]) (by rw [hl]; simp) (fun i n hi => ?_) hXb⟩
          have hxi : xs[i]? = some [.v (.int .u8 n)] := by rw [hl, List.getElem?_map, hi]; rfl
          have c1 := hcell i _ 0 _ hxi rfl
          have c2 := (hrep i _ 0 _ hxi rfl).v_inv
          rw [c2] at c1
          simpa using c1
    · rename_i ob n h1
      have hXb := hX (fun v hv => by rw [h1] at hv; cases hv)
      rw [h1] at hx
      generalize hAe : a.eval A = y at hx
      split at h
      · rename_i el' sz xs hob
        obtain ⟨hsz1, h⟩ := h.elim
        have hsz1 := Nat.eq_of_beq_eq_true hsz1
        subst hsz1
        obtain ⟨hn, h⟩ := h
        obtain ⟨l, hl, h⟩ := h.out
        obtain ⟨hrl, hsz, hown⟩ := H.heap.ob ob _ hob
        cases hx with
        | rowold _ hn' => omega
        | @row _ _ _ A' m c hlt hn' hv =>
          rcases hown with ⟨hnil, hv'⟩ | ⟨b', c', vs, hv', hF, hb, hvs, hle, hmx, hrep⟩
          · rw [hv] at hv'
            injection hv' with e1 e2 e3
            subst e1
            have : l = [] := by rw [hnil] at hl; cases l with | nil => rfl | cons x r => cases hl
            subst this
            exact ⟨_, _, h, .v, nil _ _ hAe⟩
          · rw [hv] at hv'
            injection hv' with e1 e2 e3
            subst e1; subst e2
            refine ⟨_, _, h, .v, fin b' 0 _ c l hAe (by rw [hl]; simp) (fun i k hi => ?_) hXb⟩
            have hxi : xs[i]? = some [.v (.int .u8 k)] := by rw [hl, List.getElem?_map, hi]; rfl
            obtain ⟨y, hy, hyr⟩ := hrep i _ 0 _ hxi rfl
            rw [hyr.v_inv] at hy
            rw [cell_of_row w _ _ vs el' _ hb]
            simpa using hy
      · rename_i sz xs hob
        obtain ⟨hsz1, h⟩ := h.elim
        have hsz1 := Nat.eq_of_beq_eq_true hsz1
        subst hsz1
        obtain ⟨hn, h⟩ := h
        obtain ⟨l, hl, h⟩ := h.out
        obtain ⟨hrl, hsz, hsl⟩ := H.heap.ob ob _ hob
        cases hx with
        | rowold _ hn' => omega
        | @row _ _ _ A' m c hlt hn' hv =>
          rw [hv] at hsl
          cases hsl with
          | @sl _ _ _ _ sz2 ad vals hc hA hsz2 hone hcell hrep =>
            by_cases hne : xs = []
            · subst hne
              have : l = [] := by cases l with | nil => rfl | cons x r => cases hl
              subst this
              cases A' with
              | none => exact ⟨_, _, h, .v, nil _ _ hAe⟩
              | some ad' =>
                refine ⟨_, _, h, .v, fun w' hw => ?_⟩
                have e1 := run_convert_bytes_string w' s d el (some ad') 0 c hse hee hde
                have e2 := run_bytesToString (P := P) w' ad' 0 c [] (run_loadCells_list w' ad' [] (fun j v hj => by simp at hj))
                simp only [List.length_nil] at hAe
                simp [execOp, ho, hAe, e1, e2, ofInts]
            · obtain ⟨rfl, hF, hsp⟩ := hA hne
              have had : ad = ⟨ad.block, ad.off, none⟩ := by cases ad; simp_all
              have h1sz : sz2 = 1 := by
                cases hxs : xs with
                | nil => exact absurd hxs hne
                | cons x r =>
                  have a1 := hsz2 0 x (by rw [hxs]; rfl)
                  have a2 := hsz 0 x (by rw [hxs]; rfl)
                  omega
              subst h1sz
              refine ⟨_, _, h, .v, fin ad.block ad.off xs.length c l (by rw [hAe, ← had]) (by rw [hl]; simp) (fun i n hi => ?_) hXb⟩
              have hxi : xs[i]? = some [.v (.int .u8 n)] := by rw [hl, List.getElem?_map, hi]; rfl
              have c1 := hcell i _ 0 _ hxi rfl
              have c2 := (hrep i _ 0 _ hxi rfl).v_inv
              rw [c2] at c1
              simpa using c1
      · exact h.elim
    · rename_i ob n sz lo hi h1
      have hXb := hX (fun v hv => by rw [h1] at hv; cases hv)
      rw [h1] at hx
      generalize hAe : a.eval A = y at hx
      split at h
      case h_2 => exact h.elim
      rename_i el' sz' xs hob
      obtain ⟨hsz1, h⟩ := h.elim
      rw [Bool.and_eq_true] at hsz1
      have e1 := Nat.eq_of_beq_eq_true hsz1.1
      have e2 := Nat.eq_of_beq_eq_true hsz1.2
      subst e1; subst e2
      obtain ⟨hn, h⟩ := h
      obtain ⟨l, hl, h⟩ := h.out
      obtain ⟨hrl, hsz, hown⟩ := H.heap.ob ob _ hob
      cases hx with
      | vwold _ hn' => omega
      | @vw _ _ _ _ _ _ b m c off hlt hn' hv hle hhi h0 hoff =>
        rcases hown with ⟨hnil, hv'⟩ | ⟨b', c', vs, hv', hF, hb, hvs, hle2, hmx, hrep⟩
        · subst hnil; simp at hn; omega
        · rw [hv] at hv'
          injection hv' with e1 e2 e3
          injection e1 with e1
          injection e1 with e1 _ _
          subst e1; subst e3
          have hll : l.length = hi - lo := by
            have := congrArg List.length hl
            simp at this
            omega
          refine ⟨_, _, h, .v, fin _ off _ _ l hAe hll.symm (fun i k hi' => ?_) hXb⟩
          have hil : i < l.length := (List.getElem?_eq_some_iff.1 hi').1
          have hxi : ((xs.take hi).drop lo)[i]? = some [.v (.int .u8 k)] := by rw [hl, List.getElem?_map, hi']; rfl
          rw [List.getElem?_drop, List.getElem?_take_of_lt (by omega)] at hxi
          obtain ⟨y, hy, hyr⟩ := hrep (lo + i) _ 0 _ hxi rfl
          rw [hyr.v_inv] at hy
          rw [cell_of_row w _ _ vs el' _ hb, hoff (by omega)]
          simpa using hy
    · exact h.elim
  · exact h.elim


/-- Cells that are held. -/
def RepCells (w : World) (F : Nat → Prop) (e : Env) (cs : List AV) (vs : Array Value) : Prop := vs.size = cs.length ∧ ∀ (j : Nat) s, cs[j]? = some s → Rep w F e s (vs.getD j undef)

theorem one_value {s : AV} {x : Value} (h : s.one = true) (hx : Rep w F e s x) : x.oneCell' = true := by
  cases hx <;> simp_all [AV.one, Value.oneCell']

theorem cells_one {x : Value} (h : x.oneCell' = true) : x.cells = #[x] := by
  cases x <;> simp_all [Value.oneCell', Value.cells]

theorem cellsB_sound {s : AV} {cs : List AV} (h : cellsB s = some cs) {x : Value} (hx : Rep w F e s x) : RepCells w F e cs x.cells := by
  cases s <;> simp only [cellsB] at h
  case agg cs' =>
    injection h with h; subst h
    obtain ⟨vs, rfl, h1, h2⟩ := hx.agg_inv
    exact ⟨h1, h2⟩
  all_goals
    split at h
    · rename_i h1
      injection h with h; subst h
      rw [cells_one (one_value h1 hx)]
      refine ⟨rfl, fun j s hj => ?_⟩
      cases j with
      | zero => simp at hj; subst hj; simpa using hx
      | succ j => simp at hj
    · cases h

theorem RepCells.set {cs : List AV} {vs : Array Value} (h : RepCells w F e cs vs) {s : AV} {x : Value} (hx : Rep w F e s x) (k : Nat) : RepCells w F e (cs.set k s) (vs.setIfInBounds k x) := by
  refine ⟨by simp [h.1], fun j t hj => ?_⟩
  rw [List.getElem?_set] at hj
  rw [Array.getD_eq_getD_getElem?, Array.getElem?_setIfInBounds]
  split at hj
  · rename_i hkj
    subst hkj
    split at hj
    · injection hj with hj; subst hj
      rw [if_pos rfl, if_pos (by have := h.1; omega)]
      exact hx
    · cases hj
  · rename_i hkj
    rw [if_neg hkj, ← Array.getD_eq_getD_getElem?]
    exact h.2 j t hj

theorem putCells_sound (off : Nat) : ∀ (ys : List AV) (us : List Value) (j : Nat) (cs : List AV) (vs : Array Value), us.length = ys.length → (∀ (i : Nat) s, ys[i]? = some s → Rep w F e s (us.getD i undef)) → RepCells w F e cs vs →
    RepCells w F e (putCells cs (off + j) ys) ((us.zipIdx j).foldl (fun c p => c.setIfInBounds (off + p.2) p.1) vs) := by
  intro ys
  induction ys with
  | nil =>
    intro us j cs vs hl hr h
    cases us with
    | nil => simpa [putCells] using h
    | cons u r => simp at hl
  | cons y ys ih =>
    intro us j cs vs hl hr h
    cases us with
    | nil => simp at hl
    | cons u r =>
      have h1 := hr 0 y (by simp)
      simp at h1
      have := ih r (j + 1) (cs.set (off + j) y) (vs.setIfInBounds (off + j) u) (by simpa using hl) (fun i s hi => by
        have := hr (i + 1) s (by simpa using hi)
        simpa using this) (h.set h1 _)
      simpa [putCells, Nat.add_assoc] using this

theorem putCells_length (ys : List AV) : ∀ (cs : List AV) (off : Nat), (putCells cs off ys).length = cs.length := by
  induction ys with
  | nil => intro cs off; rfl
  | cons y ys ih => intro cs off; simp [putCells, ih]

theorem fill_sound (hG : TyOk P G) (H : Here S a w F e) {fs : List (Nat × TypeId)} {place : Nat → Option (Nat × Nat)} (hp : ∀ (i : Nat) off ft tf, fs[i]? = some (off, ft) → ty G ft = some tf → place i = some (off, tf.size)) :
    ∀ (parts : List (Nat × Operand)) (cs : List AV) (vs : Array Value) (r : List AV), RepCells w F e cs vs → buildV G S fs cs parts = some r →
      ∃ us, Instr.fill place vs (parts.map fun p => (p.1, a.eval p.2)) = some us ∧ RepCells w F e r us := by
  intro parts
  induction parts with
  | nil =>
    intro cs vs r h hb
    simp only [buildV] at hb
    injection hb with hb; subst hb
    exact ⟨vs, rfl, h⟩
  | cons p rest ih =>
    intro cs vs r h hb
    obtain ⟨i, x⟩ := p
    simp only [buildV] at hb
    split at hb
    · cases hb
    rename_i off ft hf
    split at hb
    · cases hb
    rename_i tf htf
    split at hb
    · cases hb
    rename_i ys hys
    split at hb
    case h_2 => cases hb
    rename_i hle
    simp only [Bool.and_eq_true] at hle
    replace hle := And.intro (Nat.eq_of_beq_eq_true hle.1) (Nat.le_of_ble_eq_true hle.2)
    have hc := cellsB_sound hys (H.ev x)
    have hput := putCells_sound (w := w) (F := F) (e := e) off ys (a.eval x).cells.toList 0 cs vs (by rw [Array.length_toList]; exact hc.1) (fun j s hj => by
      have := hc.2 j s hj
      have hlt : j < (a.eval x).cells.size := by rw [hc.1]; exact (List.getElem?_eq_some_iff.1 hj).1
      simpa [List.getD_eq_getElem?_getD, Array.getD_eq_getD_getElem?, Array.getElem?_eq_getElem hlt] using this) h
    obtain ⟨us, hu, hr⟩ := ih _ _ r hput hb
    refine ⟨us, ?_, hr⟩
    simp only [List.map_cons, Instr.fill, hp i off ft tf hf htf]
    have q1 := hc.1
    have q2 := h.1
    rw [if_neg (by simp only [Bool.or_eq_true, decide_eq_true_eq, not_or]; constructor <;> omega)]
    rw [← hu, ← Array.foldl_toList, Array.toList_zipIdx]

theorem mapM_places (fs : List Field) (h : ∀ f ∈ fs, ∃ i, P.info? f.type = some i) :
    ∃ places, fs.mapM (fun f => (P.info? f.type).map fun i => (f.offset, i.size)) = some places ∧ ∀ (i : Nat) f, fs[i]? = some f → ∃ inf, P.info? f.type = some inf ∧ places[i]? = some (f.offset, inf.size) := by
  induction fs with
  | nil => exact ⟨[], rfl, fun i f hf => by simp at hf⟩
  | cons f fs ih =>
    obtain ⟨inf, hi⟩ := h f (List.mem_cons_self ..)
    obtain ⟨pl, hpl, hp⟩ := ih fun g hg => h g (List.mem_cons_of_mem _ hg)
    refine ⟨(f.offset, inf.size) :: pl, by simp [List.mapM_cons, hi, hpl], fun i g hg => ?_⟩
    cases i with
    | zero => simp at hg; subst hg; exact ⟨inf, hi, rfl⟩
    | succ i => simpa using hp i g (by simpa using hg)

theorem build_sound (hG : TyOk P G) (H : Here S a w F e) {T : TypeId} {ti : TI} (ht : ty G T = some ti) {fs : List (Nat × TypeId)} (hu : ti.u = .struct fs) {parts : Array (Nat × Operand)} {cs : List AV} {q : AV → Prop} {o : Oper}
    (ho : o.op = .build T parts) (hb : buildV G S fs (ti.zero.map .v) parts.toList = some cs) (h : q (.agg cs)) : Sound1 X P o a w F e q := by
  have g := hG.get ht
  obtain ⟨gs, hde, hfs, _⟩ := g.struct hu
  obtain ⟨it, hit, hsz, _, z, hz, hzc⟩ := g.info
  obtain ⟨places, hpl, hpp⟩ := mapM_places (P := P) gs.toList (fun f hf => by
    have := g.kids fs hu (f.offset, f.type) (by rw [hfs]; exact List.mem_map.2 ⟨f, hf, rfl⟩)
    exact this)
  have hz0 : RepCells w F e (ti.zero.map .v) z.cells := by
    rw [← hzc]
    refine ⟨by simp, fun j s hj => ?_⟩
    rw [List.getElem?_map] at hj
    cases hv : z.cells.toList[j]? with
    | none => rw [hv] at hj; cases hj
    | some y =>
      rw [hv] at hj
      simp at hj
      subst hj
      have hv' : z.cells[j]? = some y := by simpa using hv
      rw [Array.getD_eq_getD_getElem?, hv']
      exact .v
  obtain ⟨us, hus, hr⟩ := fill_sound hG H (place := (places.toArray[·]?)) (fs := fs) (fun i off ft tf hf htf => by
    rw [hfs, List.getElem?_map] at hf
    cases hg : gs.toList[i]? with
    | none => rw [hg] at hf; cases hf
    | some fd =>
      rw [hg] at hf
      simp at hf
      obtain ⟨inf, h1, h2⟩ := hpp i fd hg
      obtain ⟨i2, h3, h4, _⟩ := (hG.get htf).info
      rw [← hf.2, h1] at h3
      injection h3 with h3
      subst h3
      rw [List.getElem?_toArray, h2, hf.1, h4]) parts.toList _ _ cs hz0 hb
  refine ⟨_, .agg us, h, .agg hr.1 hr.2, fun w' _ => ?_⟩
  have hbl : P.built T (parts.map fun p => (p.1, a.eval p.2)).toList = some us := by
    unfold Program.built
    simp only [hit, hde, hz, hpl]
    rw [← hus]
    simp
  have := run_build (P := P) w' T (parts.map fun p => (p.1, a.eval p.2)) us hbl
  simp [execOp, ho, this]

theorem buildA_sound (hG : TyOk P G) (H : Here S a w F e) {T : TypeId} {ti : TI} (ht : ty G T = some ti) {len : Nat} {el : TypeId} {te : TI} (hte : ty G el = some te) (hu : ti.u = .array len el) {parts : Array (Nat × Operand)} {cs : List AV} {q : AV → Prop} {o : Oper}
    (ho : o.op = .build T parts) (hb : buildV G S ((List.range len).map fun i => (i * te.size, el)) (ti.zero.map .v) parts.toList = some cs) (h : q (.agg cs)) : Sound1 X P o a w F e q := by
  have g := hG.get ht
  have hde := g.arr hu
  obtain ⟨it, hit, hsz, _, z, hz, hzc⟩ := g.info
  obtain ⟨i2, h3, h4, _⟩ := (hG.get hte).info
  have hz0 : RepCells w F e (ti.zero.map .v) z.cells := by
    rw [← hzc]
    refine ⟨by simp, fun j s hj => ?_⟩
    rw [List.getElem?_map] at hj
    cases hv : z.cells.toList[j]? with
    | none => rw [hv] at hj; cases hj
    | some y =>
      rw [hv] at hj
      simp at hj
      subst hj
      have hv' : z.cells[j]? = some y := by simpa using hv
      rw [Array.getD_eq_getD_getElem?, hv']
      exact .v
  obtain ⟨us, hus, hr⟩ := fill_sound hG H (place := fun i => some (i * te.size, te.size)) (fs := (List.range len).map fun i => (i * te.size, el)) (fun i off ft tf hf htf => by
    rw [List.getElem?_map] at hf
    cases hg : (List.range len)[i]? with
    | none => rw [hg] at hf; cases hf
    | some k =>
      rw [hg] at hf
      have hk := (List.getElem?_eq_some_iff.1 hg).2
      simp at hk
      simp at hf
      obtain ⟨rfl, rfl⟩ := hf
      rw [hte] at htf
      injection htf with htf
      rw [htf, hk]) parts.toList _ _ cs hz0 hb
  refine ⟨_, .agg us, h, .agg hr.1 hr.2, fun w' _ => ?_⟩
  have hbl : P.built T (parts.map fun p => (p.1, a.eval p.2)).toList = some us := by
    unfold Program.built
    simp only [hit, hde, hz, h3, h4]
    rw [← hus]
    simp
  have := run_build (P := P) w' T (parts.map fun p => (p.1, a.eval p.2)) us hbl
  simp [execOp, ho, this]

theorem valOp_sound (hG : TyOk P G) (H : Here S a w F e) (o : Oper) (q : AV → Prop) (hok : XOk X F e S o.op) (h : valOp G S o.op q) : Sound1 X P o a w F e q := by
  cases ho : o.op <;> rw [ho] at h <;> simp only [valOp] at h
  case move x => exact ⟨_, _, h, H.ev x, fun w' _ => by simp [execOp, ho]⟩
  case assign x => exact ⟨_, _, h, H.ev x, fun w' _ => by simp [execOp, ho]⟩
  case pick c x y => exact pickV_sound H ho h
  case load T x =>
    split at h
    · rename_i ti ht; exact loadV_sound hG H ht ho hok h
    · exact h.elim
  case binOp op T x y yT => exact binV_sound hG H ho h
  case unOp op T x => exact unV_sound H ho h
  case convert s d x => exact convV_sound hG H ho hok h
  case fieldAddr T x f => exact fieldAddrV_sound hG H ho h
  case field T x f => exact fieldV_sound hG H ho h
  case indexAddr T x i => exact indexAddrV_sound hG H ho h
  case index T x i => exact indexV_sound hG H ho h
  case slice T x lo hi mx =>
    cases mx with
    | none => exact sliceV_sound hG H ho h
    | some m => exact slice3V_sound hG H ho h
  case extract x i =>
    have hx := H.ev x
    split at h
    case h_2 => exact h.elim
    rename_i vs h1
    split at h
    case h_2 => exact h.elim
    rename_i r hr
    rw [h1] at hx
    obtain ⟨us, ex, hsz, hrep⟩ := hx.tup_inv
    refine ⟨r, _, h, hrep i r hr, fun w' _ => ?_⟩
    have := getElem?_of_getD (vs := us) (j := i) (by rw [hsz]; exact (List.getElem?_eq_some_iff.1 hr).1)
    simp only [execOp, ho, ex, Instr.extract]
    rw [this]; rfl
  case build T parts =>
    split at h
    case h_2 => exact h.elim
    rename_i ti ht
    split at h
    · rename_i fs hu
      split at h
      case h_2 => exact h.elim
      rename_i cs hb
      exact build_sound hG H ht hu ho hb h
    · rename_i len el hu
      split at h
      case h_2 => exact h.elim
      rename_i te hte
      split at h
      case h_2 => exact h.elim
      rename_i cs hb
      exact buildA_sound hG H ht hte hu ho hb h
    · exact h.elim
  case makeFunc f fs cs =>
    have hr : ∀ (xs : Array Operand) (j : Nat) s, (xs.toList.map S.ev)[j]? = some s → Rep w F e s ((xs.map a.eval).getD j undef) := by
      intro xs j s hj
      rw [List.getElem?_map] at hj
      cases hx : xs.toList[j]? with
      | none => rw [hx] at hj; cases hj
      | some x =>
        rw [hx] at hj
        simp at hj
        subst hj
        have hx' : xs[j]? = some x := by simpa using hx
        rw [Array.getD_eq_getD_getElem?, Array.getElem?_map, hx']
        exact H.ev x
    exact ⟨_, .func f (fs.map a.eval) (cs.map a.eval), h, .fn (by simp) (by simp) (hr fs) (hr cs), fun w' _ => by simp [execOp, ho, Instr.makeFunc]⟩
  case makeInterface T x =>
    split at h
    case h_2 => exact h.elim
    rename_i ti ht
    obtain ⟨hc, h⟩ := h.elim
    exact ⟨_, .iface T (a.eval x), h, .ifc (H.ev x), fun w' _ => by simp [execOp, ho, run_makeInterface w' T (a.eval x) ((hG.get ht).conc hc)]⟩
  case call c =>
    obtain ⟨callee, args, ts⟩ := c
    obtain ⟨args⟩ := args
    obtain ⟨ts⟩ := ts
    unfold builtinV at h
    split at h
    case h_2 => exact h.elim
    rename_i b hcal
    simp only at hcal
    subst hcal
    split at h
    · rename_i x T h1 h2
      simp only at h1 h2
      subst h1; subst h2
      exact lenV_sound hG H ho h
    · rename_i x y h1
      simp only at h1
      subst h1
      exact minmaxV_sound (mx := false) H ho h
    · rename_i x y h1
      simp only at h1
      subst h1
      exact minmaxV_sound (mx := true) H ho h
    · exact h.elim

end
end Go.Ab
