/- Batches, states, runs, manifests: models, and that bytes are taken as they were (plain). -/
import Derived.Test.YtgmejofagmfcfaaGreatDoorPTab1
namespace Go.Ab
set_option linter.unusedVariables false
set_option linter.unusedSimpArgs false

/-! ### Batches -/
def riseW : List Write → Bool
  | [] => true
  | [_] => true
  | a :: b :: r => ltS a.Key b.Key && riseW (b :: r)
def goodW (w : Write) : Bool := decide (1 ≤ w.Key.length) && decide (w.Key.length ≤ 32) && decide (w.Val.length ≤ 64) && !(w.Del && decide (w.Val ≠ []))
def mayB (b : Batch) : Bool := (decide (b.Kind = 1) || decide (b.Kind = 2)) && (decide (1 ≤ b.Token.length) && decide (b.Token.length ≤ 16)) && decide (b.Writes.length ≤ 24) && !(decide (b.Kind = 2) && decide (b.Writes ≠ [])) && (riseW b.Writes && b.Writes.all goodW)
def delN (w : Write) : Str := if w.Del = true then [49, 59] else [48, 59]
def wBytes (w : Write) : Str := delN w ++ (textM w.Key ++ textM w.Val)
def wsBytes : List Write → Str
  | [] => []
  | w :: r => wBytes w ++ wsBytes r
def headB (b : Batch) : Str := numS b.Kind.toNat ++ textM b.Token ++ numS b.Writes.length
def bytesB (b : Batch) : Str × Int := if mayB b = true then (headB b ++ wsBytes b.Writes, 0) else ([], 1)
def noBatch : Batch := ⟨0, [], []⟩
def takeW (s : Str) : Option (Write × Str) :=
  if (takeNumM s).2.2 ≠ 0 ∨ (takeNumM s).1 > 1 then none else
  if (takeTextM (takeNumM s).2.1 32).2.2 ≠ 0 then none else
  if (takeTextM (takeTextM (takeNumM s).2.1 32).2.1 64).2.2 ≠ 0 then none else
  some (⟨(takeTextM (takeNumM s).2.1 32).1, (takeTextM (takeTextM (takeNumM s).2.1 32).2.1 64).1, decide ((takeNumM s).1 = 1)⟩, (takeTextM (takeTextM (takeNumM s).2.1 32).2.1 64).2.1)
def takeWs : Nat → Str → Option (List Write × Str)
  | 0, s => some ([], s)
  | n + 1, s => match takeW s with
    | none => none
    | some (w, r) => match takeWs n r with
      | none => none
      | some (l, q) => some (w :: l, q)
def takeBt (s : Str) : Batch × Int :=
  if (takeNumM s).2.2 ≠ 0 ∨ (takeNumM s).1 > 2 then (noBatch, 3) else
  if (takeTextM (takeNumM s).2.1 16).2.2 ≠ 0 then (noBatch, 3) else
  if (takeNumM (takeTextM (takeNumM s).2.1 16).2.1).2.2 ≠ 0 ∨ (takeNumM (takeTextM (takeNumM s).2.1 16).2.1).1 > 24 then (noBatch, 3) else
  match takeWs (takeNumM (takeTextM (takeNumM s).2.1 16).2.1).1.toNat (takeNumM (takeTextM (takeNumM s).2.1 16).2.1).2.1 with
  | none => (noBatch, 3)
  | some (l, q) => if q ≠ [] ∨ mayB ⟨(takeNumM s).1, (takeTextM (takeNumM s).2.1 16).1, l⟩ = false then (noBatch, 3) else (⟨(takeNumM s).1, (takeTextM (takeNumM s).2.1 16).1, l⟩, 0)
theorem nums0 : numS 0 = [48, 59] := by unfold numS; rw [show (0 / 10 : Nat) = 0 from rfl, fg_zero]; rfl
theorem nums1 : numS 1 = [49, 59] := by unfold numS; rw [show (1 / 10 : Nat) = 0 from rfl, fg_zero]; rfl
theorem delN_num (w : Write) : delN w = numS (if w.Del = true then 1 else 0) := by
  unfold delN; split
  · rw [nums1]
  · rw [nums0]
theorem takeW_bytes {w : Write} (h : goodW w = true) (r : Str) : takeW (wBytes w ++ r) = some (w, r) := by
  unfold goodW at h
  simp only [Bool.and_eq_true, decide_eq_true_eq, Bool.not_eq_true'] at h
  obtain ⟨⟨⟨h1, h2⟩, h3⟩, h4⟩ := h
  have m := m64
  have e : wBytes w ++ r = numS (if w.Del = true then 1 else 0) ++ (textM w.Key ++ (textM w.Val ++ r)) := by unfold wBytes; rw [delN_num]; simp
  have t1 := takeNum_num (n := if w.Del = true then 1 else 0) (by split <;> omega) (textM w.Key ++ (textM w.Val ++ r))
  have t2 := takeText_text (t := w.Key) (most := 32) (by omega) (by omega) (textM w.Val ++ r)
  have t3 := takeText_text (t := w.Val) (most := 64) (by omega) (by omega) r
  unfold takeW
  rw [e, t1]
  simp only [t2, t3]
  rw [if_neg (by split <;> simp), if_neg (by simp), if_neg (by simp)]
  cases w with
  | mk k v d => cases d <;> rfl
theorem takeWs_bytes (l : List Write) (r : Str) (h : l.all goodW = true) : takeWs l.length (wsBytes l ++ r) = some (l, r) := by
  induction l with
  | nil => rfl
  | cons w l ih =>
    rw [List.all_cons, Bool.and_eq_true] at h
    have e : wsBytes (w :: l) ++ r = wBytes w ++ (wsBytes l ++ r) := by
      have : wsBytes (w :: l) = wBytes w ++ wsBytes l := rfl
      rw [this, List.append_assoc]
    rw [e, List.length_cons]
    unfold takeWs
    rw [takeW_bytes h.1]
    simp only
    rw [ih h.2]
theorem takeB_bytes {b : Batch} (h : mayB b = true) : takeBt (bytesB b).1 = (b, 0) := by
  have hm := h
  unfold mayB at h
  simp only [Bool.and_eq_true, Bool.or_eq_true, decide_eq_true_eq, Bool.not_eq_true'] at h
  obtain ⟨⟨⟨⟨h1, h2, h3⟩, h4⟩, h5⟩, h6, h7⟩ := h
  have m := m64
  have hk : ((b.Kind.toNat : Nat) : Int) = b.Kind := by omega
  have e : (bytesB b).1 = numS b.Kind.toNat ++ (textM b.Token ++ (numS b.Writes.length ++ wsBytes b.Writes)) := by unfold bytesB headB; rw [if_pos hm]; simp
  have t1 := takeNum_num (n := b.Kind.toNat) (by omega) (textM b.Token ++ (numS b.Writes.length ++ wsBytes b.Writes))
  have t2 := takeText_text (t := b.Token) (most := 16) (by omega) (by omega) (numS b.Writes.length ++ wsBytes b.Writes)
  have t3 := takeNum_num (n := b.Writes.length) (by omega) (wsBytes b.Writes)
  have t4 := takeWs_bytes b.Writes [] h7
  rw [List.append_nil] at t4
  unfold takeBt
  rw [e, t1]
  simp only [t2, t3, hk, Int.toNat_natCast]
  rw [t4, if_neg (by omega), if_neg (by simp), if_neg (by omega)]
  simp only
  have e2 : (⟨b.Kind, b.Token, b.Writes⟩ : Batch) = b := rfl
  rw [e2, if_neg (by rw [hm]; simp)]
theorem textM_le {t : Str} {k : Nat} (h : t.length ≤ k) (hk : k ≤ 1099511627776) : (textM t).length ≤ k + 22 := by
  have := textM_len (s := t) (by omega); omega

/-! ### States -/
def gaveUp (b : Batch) : Str := if b.Kind = 2 then [103] else [99]
def doB (s : State) (b : Batch) : State × Int :=
  if mayB b = false then (s, 1) else if hasK s.Toks b.Token = true then (s, 8) else (⟨applyM s.Data b.Writes, putP s.Toks b.Token (gaveUp b)⟩, 0)
def pairsM (s : State) : List Pair := s.Data.map (fun p => (⟨100 :: p.Key, p.Val⟩ : Pair)) ++ s.Toks.map (fun p => (⟨116 :: p.Key, p.Val⟩ : Pair))
def backS (s : State) (p : Pair) : Option State :=
  match p.Key with
  | [] => none
  | c :: k => if c = 100 ∧ s.Toks = [] then some ⟨s.Data ++ [⟨k, p.Val⟩], s.Toks⟩ else if c = 116 ∧ (p.Val = [99] ∨ p.Val = [103]) then some ⟨s.Data, s.Toks ++ [⟨k, p.Val⟩]⟩ else none
def backF : List Pair → State → Option State
  | [], s => some s
  | p :: r, s => match backS s p with | none => none | some t => backF r t
def noState : State := ⟨[], []⟩
def backM (l : List Pair) : State × Int := match backF l noState with | none => (noState, 3) | some s => (s, 0)
def TokOk (s : State) : Prop := ∀ p ∈ s.Toks, p.Val = [99] ∨ p.Val = [103]
theorem backS_t (s : State) (k v : Str) (hv : v = [99] ∨ v = [103]) : backS s ⟨116 :: k, v⟩ = some ⟨s.Data, s.Toks ++ [⟨k, v⟩]⟩ := by simp [backS, hv]
theorem backS_d (s : State) (k v : Str) (h : s.Toks = []) : backS s ⟨100 :: k, v⟩ = some ⟨s.Data ++ [⟨k, v⟩], s.Toks⟩ := by simp [backS, h]
theorem back_toks (l : List Pair) (h : ∀ p ∈ l, p.Val = [99] ∨ p.Val = [103]) : ∀ s : State, backF (l.map (fun p => (⟨116 :: p.Key, p.Val⟩ : Pair))) s = some ⟨s.Data, s.Toks ++ l⟩ := by
  induction l with
  | nil => intro s; cases s; simp [backF]
  | cons p r ih =>
    intro s
    have hp := h p (List.mem_cons_self ..)
    rw [List.map_cons]
    unfold backF
    rw [backS_t _ _ _ hp]
    simp only
    rw [ih (fun x hx => h x (List.mem_cons_of_mem _ hx))]
    simp
theorem back_data (l t : List Pair) : ∀ s : State, s.Toks = [] → backF (l.map (fun p => (⟨100 :: p.Key, p.Val⟩ : Pair)) ++ t) s = backF t ⟨s.Data ++ l, []⟩ := by
  induction l with
  | nil => intro s h; cases s; simp only at h; subst h; simp
  | cons p r ih =>
    intro s h
    rw [List.map_cons, List.cons_append]
    conv => lhs; unfold backF
    rw [backS_d _ _ _ h]
    simp only
    refine (ih (State.mk (s.Data ++ [Pair.mk p.Key p.Val]) s.Toks) h).trans ?_
    simp
theorem back_pairs {s : State} (h : TokOk s) : backM (pairsM s) = (s, 0) := by
  unfold backM pairsM
  rw [back_data _ _ _ rfl, back_toks _ h]
  simp [noState]
theorem doB_toks {s : State} {b : Batch} (h : TokOk s) : TokOk (doB s b).1 := by
  unfold doB
  split
  · exact h
  split
  · exact h
  · intro p hp
    rcases putP_mem hp with rfl | hp
    · unfold gaveUp; split
      · exact .inr rfl
      · exact .inl rfl
    · exact h p hp

/-! ### Runs -/
def shortP (p : Pair) : Bool := decide (p.Key.length ≤ 65536) && decide (p.Val.length ≤ 65536)
def mayR (l : List Pair) : Bool := rightM l && l.all shortP
def pBytes : List Pair → Str
  | [] => []
  | p :: r => textM p.Key ++ (textM p.Val ++ pBytes r)
def bytesR (l : List Pair) : Str × Int := if mayR l = true then (sealM (numS l.length ++ pBytes l), 0) else ([], 1)
def takeP (s : Str) : Option (Pair × Str) :=
  if (takeTextM s 65536).2.2 ≠ 0 then none else
  if (takeTextM (takeTextM s 65536).2.1 65536).2.2 ≠ 0 then none else
  some (⟨(takeTextM s 65536).1, (takeTextM (takeTextM s 65536).2.1 65536).1⟩, (takeTextM (takeTextM s 65536).2.1 65536).2.1)
def takePs : Nat → Str → Option (List Pair × Str)
  | 0, s => some ([], s)
  | n + 1, s => match takeP s with
    | none => none
    | some (w, r) => match takePs n r with
      | none => none
      | some (l, q) => some (w :: l, q)
def takeR (s : Str) : List Pair × Int :=
  if (openM s 1073741824).2.2 ≠ 0 ∨ (openM s 1073741824).2.1 ≠ [] then ([], 3) else
  if (takeNumM (openM s 1073741824).1).2.2 ≠ 0 then ([], 3) else
  match takePs (takeNumM (openM s 1073741824).1).1.toNat (takeNumM (openM s 1073741824).1).2.1 with
  | none => ([], 3)
  | some (l, q) => if q ≠ [] ∨ mayR l = false then ([], 3) else (l, 0)
theorem takeP_bytes {p : Pair} (h : shortP p = true) (r : Str) : takeP (textM p.Key ++ (textM p.Val ++ r)) = some (p, r) := by
  unfold shortP at h
  simp only [Bool.and_eq_true, decide_eq_true_eq] at h
  have m := m64
  have t2 := takeText_text (t := p.Key) (most := 65536) (by omega) (by omega) (textM p.Val ++ r)
  have t3 := takeText_text (t := p.Val) (most := 65536) (by omega) (by omega) r
  unfold takeP
  rw [t2]
  simp only [t3]
  rw [if_neg (by simp), if_neg (by simp)]
theorem takePs_bytes (l : List Pair) (r : Str) (h : l.all shortP = true) : takePs l.length (pBytes l ++ r) = some (l, r) := by
  induction l with
  | nil => rfl
  | cons p l ih =>
    rw [List.all_cons, Bool.and_eq_true] at h
    have e : pBytes (p :: l) ++ r = textM p.Key ++ (textM p.Val ++ (pBytes l ++ r)) := by
      have : pBytes (p :: l) = textM p.Key ++ (textM p.Val ++ pBytes l) := rfl
      rw [this]; simp
    rw [e, List.length_cons]
    unfold takePs
    rw [takeP_bytes h.1]
    simp only
    rw [ih h.2]
theorem pBytes_len (l : List Pair) : l.length ≤ (pBytes l).length := by
  induction l with
  | nil => simp [pBytes]
  | cons p r ih =>
    have : pBytes (p :: r) = textM p.Key ++ (textM p.Val ++ pBytes r) := rfl
    rw [this]
    have h1 : 0 < (textM p.Key).length := by unfold textM numS; simp; omega
    simp only [List.length_append, List.length_cons]; omega
theorem takeR_bytes {l : List Pair} (h : mayR l = true) (hb : (numS l.length ++ pBytes l).length ≤ 1073741824) : takeR (bytesR l).1 = (l, 0) := by
  have m := m64
  have hm := h
  unfold mayR at h
  rw [Bool.and_eq_true] at h
  have hl := pBytes_len l
  have hl2 : (pBytes l).length ≤ (numS l.length ++ pBytes l).length := by rw [List.length_append]; omega
  have e : (bytesR l).1 = sealM (numS l.length ++ pBytes l) ++ [] := by unfold bytesR; rw [if_pos hm]; simp
  have t0 := open_seal (t := numS l.length ++ pBytes l) (most := 1073741824) (by omega) (by omega) []
  have t1 := takeNum_num (n := l.length) (by omega) (pBytes l)
  have t2 := takePs_bytes l [] h.2
  rw [List.append_nil] at t2
  unfold takeR
  rw [e, t0]
  simp only [t1, Int.toNat_natCast, t2]
  rw [if_neg (by simp), if_neg (by simp), if_neg (by rw [hm]; simp)]

/-! ### Manifests -/
def runNm (n : Int) : Str := if 1 ≤ n ∧ n ≤ 1000000 then 114 :: figS n.toNat else []
def manifM (f r : Int) : Str := sealM (numS (max f 0).toNat ++ numS (max r 0).toNat)
def takeMan (s : Str) : Int × Int × Int :=
  if (openM s 65536).2.2 ≠ 0 ∨ (openM s 65536).2.1 ≠ [] then (0, 0, 3) else
  if (takeNumM (openM s 65536).1).2.2 ≠ 0 ∨ (takeNumM (openM s 65536).1).1 < 1 ∨ (takeNumM (openM s 65536).1).1 > 1000000 then (0, 0, 3) else
  if (takeNumM (takeNumM (openM s 65536).1).2.1).2.2 ≠ 0 ∨ (takeNumM (takeNumM (openM s 65536).1).2.1).1 > 1000000 ∨ (takeNumM (takeNumM (openM s 65536).1).2.1).2.1 ≠ [] then (0, 0, 3) else
  ((takeNumM (openM s 65536).1).1, (takeNumM (takeNumM (openM s 65536).1).2.1).1, 0)
theorem takeMan_manif {f r : Int} (hf : 1 ≤ f ∧ f ≤ 1000000) (hr : 0 ≤ r ∧ r ≤ 1000000) : takeMan (manifM f r) = (f, r, 0) := by
  have m := m64
  have e1 : (((max f 0).toNat : Nat) : Int) = f := by omega
  have e2 : (((max r 0).toNat : Nat) : Int) = r := by omega
  have l1 := numS_len (n := (max f 0).toNat) (by omega)
  have l2 := numS_len (n := (max r 0).toNat) (by omega)
  have t0 := open_seal (t := numS (max f 0).toNat ++ numS (max r 0).toNat) (most := 65536) (by rw [List.length_append]; omega) (by rw [List.length_append]; omega) []
  have t1 := takeNum_num (n := (max f 0).toNat) (by omega) (numS (max r 0).toNat)
  have t2 := takeNum_num (n := (max r 0).toNat) (by omega) []
  rw [List.append_nil] at t0 t2
  unfold takeMan manifM
  rw [t0]
  simp only [t1, t2, e1, e2]
  rw [if_neg (by simp), if_neg (by omega), if_neg (by simp; omega)]
end Go.Ab
