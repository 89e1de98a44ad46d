/- Segments' names, and the records of bytes: program and document alike (plain). -/
import Derived.Test.YtgmejofagmfcfaaGreatDoorPLay1
namespace Go.Ab
set_option linter.unusedVariables false
set_option linter.unusedSimpArgs false

/-! ### Names -/
def mayM (seg : Int) : Bool := decide (1 ≤ seg) && decide (seg ≤ 1000000)
def nameM (seg : Int) : Str := if mayM seg then 119 :: figS seg.toNat else []
theorem mayM_iff {seg : Int} : mayM seg = true ↔ 1 ≤ seg ∧ seg ≤ 1000000 := by simp [mayM]
theorem may_eq (seg : Int) : wal_may seg = some (mayM seg) := by
  unfold wal_may mayM
  by_cases h : 1 ≤ seg
  · rw [if_pos (by simpa using h)]; simp [h]
  · rw [if_neg (by simpa using h)]; simp [h]
theorem trim_num (n : Nat) (h : n ≤ 18446744073709551615) : strings_TrimSuffix (numS n) [59] = some (figS n) := by
  have hl := numS_len h
  have he : (numS n).length = (figS n).length + 1 := by rw [numS_fig]; simp
  unfold strings_TrimSuffix internal_stringslite_TrimSuffix internal_stringslite_HasSuffix
  have hw : IntKind.i64.wrap (((numS n).length : Int) - (([59] : Str).length : Int)) = ((figS n).length : Int) := by
    rw [show (([59] : Str).length : Int) = 1 from rfl, IntWalk.i64_in _ ⟨by omega, by omega⟩]; omega
  have e2 : (numS n).drop (figS n).length = [59] := by rw [numS_fig]; simp
  have e3 : (numS n).take (figS n).length = figS n := by rw [numS_fig]; simp
  rw [if_pos (by rw [show (([59] : Str).length : Int) = 1 from rfl]; simp; omega), hw, need_pos (by omega), cut_tail (by omega) (by omega), Int.toNat_natCast, e2]
  simp only [Option.bind_some]
  rw [if_pos (by simp), need_pos (by omega), cut_head, Int.toNat_natCast, e3]
  rfl
theorem name_eq {seg : Int} (h : -9223372036854775808 ≤ seg ∧ seg ≤ 9223372036854775807) : wal_Name seg = some (nameM seg) := by
  unfold wal_Name nameM
  rw [may_eq]
  simp only [Option.bind_some]
  cases hm : mayM seg with
  | false => rfl
  | true =>
    rw [mayM_iff] at hm
    have e : seg = (seg.toNat : Int) := by omega
    have hl := figS_len (n := seg.toNat) (by have := m64; omega)
    rw [if_neg (by simp), if_pos rfl, u64_in (by omega) (by omega)]
    conv => lhs; rw [e]
    rw [num_eq (by omega)]
    simp only [Option.bind_some]
    rw [trim_num _ (by omega)]
    simp only [Option.bind_some]
    rw [need_pos (by simp; omega)]
    rfl
theorem figS_inj {a b : Nat} (h : figS a = figS b) : a = b := by
  rw [← valF_figS a, ← valF_figS b, h]
theorem nameM_inj {a b : Int} (ha : mayM a = true) (hb : mayM b = true) (h : nameM a = nameM b) : a = b := by
  unfold nameM at h
  rw [if_pos ha, if_pos hb] at h
  injection h with _ h
  have := figS_inj h
  rw [mayM_iff] at ha hb
  omega
theorem nameM_len (seg : Int) : (nameM seg).length ≤ 21 := by
  unfold nameM
  cases hm : mayM seg with
  | false => simp
  | true =>
    rw [mayM_iff] at hm
    have hl := figS_len (n := seg.toNat) (by have := m64; omega)
    simp; omega
def newN : Str := [119, 46, 110, 101, 119]
theorem nameM_new (seg : Int) : nameM seg ≠ newN := by
  intro h
  unfold nameM at h
  cases hm : mayM seg with
  | false => rw [hm] at h; simp [newN] at h
  | true =>
    rw [hm, if_pos rfl] at h
    injection h with _ h
    have : isFig 46 = true := figS_figs seg.toNat 46 (by rw [h]; simp)
    exact absurd this (by decide)

/-! ### Records -/
def sealAll : List Str → Str
  | [] => []
  | t :: r => sealM t ++ sealAll r
theorem sealAll_append (l r : List Str) : sealAll (l ++ r) = sealAll l ++ sealAll r := by
  induction l with
  | nil => rfl
  | cons t l ih => simp only [List.cons_append, sealAll, ih, List.append_assoc]
theorem sealAll_len (l : List Str) : l.length ≤ (sealAll l).length := by
  induction l with
  | nil => exact Nat.le_refl _
  | cons t l ih => have := seal_pos t; simp only [sealAll, List.length_cons, List.length_append]; omega
/-- What is scanned of bytes: the records, and what stands behind them. -/
inductive Scanned : Str → List Str → Str → Prop
  | stop {s} (h : (openM s 2048).2.2 ≠ 0) : Scanned s [] s
  | next {s l r} (h : (openM s 2048).2.2 = 0) (k : Scanned (openM s 2048).2.1 l r) : Scanned s ((openM s 2048).1 :: l) r
theorem Scanned.eq {s : Str} {l : List Str} {r : Str} (h : Scanned s l r) : s = sealAll l ++ r ∧ (∀ t ∈ l, t.length ≤ 2048) ∧ (openM r 2048).2.2 ≠ 0 := by
  induction h with
  | stop h => exact ⟨rfl, fun t ht => by (cases ht), h⟩
  | @next s l r h k ih =>
    obtain ⟨e1, e2, _⟩ := open_inv (most := 2048) h
    refine ⟨?_, fun t ht => ?_, ih.2.2⟩
    · simp only [sealAll]; rw [List.append_assoc, ← ih.1]; exact e1
    · rcases List.mem_cons.1 ht with rfl | ht
      · omega
      · exact ih.2.1 t ht
theorem scanned_of (l : List Str) : ∀ (s r : Str), s = sealAll l ++ r → (∀ t ∈ l, t.length ≤ 2048) → (openM r 2048).2.2 ≠ 0 → Scanned s l r := by
  induction l with
  | nil => intro s r h _ h2; simp only [sealAll, List.nil_append] at h; subst h; exact .stop h2
  | cons t l ih =>
    intro s r h h1 h2
    have ht := h1 t (List.mem_cons_self ..)
    have hm := m64
    simp only [sealAll, List.append_assoc] at h
    have e := open_seal (t := t) (most := 2048) (by omega) (by omega) (sealAll l ++ r)
    rw [← h] at e
    have k := ih (openM s 2048).2.1 r (by rw [e]) (fun x hx => h1 x (List.mem_cons_of_mem _ hx)) h2
    have := Scanned.next (s := s) (by rw [e]) k
    rw [e] at this
    exact this
theorem Scanned.unique {s : Str} {l : List Str} {r : Str} (h : Scanned s l r) : ∀ {l2 : List Str} {r2 : Str}, Scanned s l2 r2 → l = l2 ∧ r = r2 := by
  induction h with
  | stop h =>
    intro l2 r2 h2
    cases h2 with
    | stop _ => exact ⟨rfl, rfl⟩
    | next h3 _ => exact absurd h3 h
  | next h k ih =>
    intro l2 r2 h2
    cases h2 with
    | stop h3 => exact absurd h h3
    | next _ k2 => obtain ⟨a, b⟩ := ih k2; exact ⟨by rw [a], b⟩
theorem open_nil : (openM [] 2048).2.2 ≠ 0 := by decide
theorem scanned_ex (n : Nat) : ∀ (s : Str), s.length ≤ n → ∃ l r, Scanned s l r := by
  induction n with
  | zero =>
    intro s hs
    have : s = [] := List.length_eq_zero_iff.1 (by omega)
    subst this
    exact ⟨[], [], .stop open_nil⟩
  | succ n ih =>
    intro s hs
    by_cases h : (openM s 2048).2.2 = 0
    · obtain ⟨e1, _, _⟩ := open_inv (most := 2048) h
      have hp := seal_pos (openM s 2048).1
      have := congrArg List.length e1
      rw [List.length_append] at this
      obtain ⟨l, r, k⟩ := ih (openM s 2048).2.1 (by omega)
      exact ⟨_, r, .next h k⟩
    · exact ⟨[], s, .stop h⟩
def scanF : Nat → Str → List Str
  | 0, _ => []
  | n + 1, s => if (openM s 2048).2.2 = 0 then (openM s 2048).1 :: scanF n (openM s 2048).2.1 else []
def scanL (s : Str) : List Str := scanF s.length s
def scanP (s : Str) : Nat := (sealAll (scanL s)).length
theorem scanF_eq {s : Str} {l : List Str} {r : Str} (h : Scanned s l r) : ∀ (n : Nat), s.length ≤ n → scanF n s = l := by
  induction h with
  | @stop s h =>
    intro n hn
    cases n with
    | zero => rfl
    | succ n => unfold scanF; rw [if_neg h]
  | @next s l r h k ih =>
    intro n hn
    obtain ⟨e1, _, _⟩ := open_inv (most := 2048) h
    have hp := seal_pos (openM s 2048).1
    have := congrArg List.length e1
    rw [List.length_append] at this
    cases n with
    | zero => omega
    | succ n => unfold scanF; rw [if_pos h, ih n (by omega)]
theorem scanned (s : Str) : ∃ r, Scanned s (scanL s) r ∧ s = sealAll (scanL s) ++ r := by
  obtain ⟨l, r, h⟩ := scanned_ex s.length s (Nat.le_refl _)
  have e := scanF_eq h s.length (Nat.le_refl _)
  unfold scanL
  rw [e]
  exact ⟨r, h, h.eq.1⟩
theorem scanL_of {s : Str} {l : List Str} {r : Str} (h : Scanned s l r) : scanL s = l := scanF_eq h s.length (Nat.le_refl _)
theorem scanP_le (s : Str) : scanP s ≤ s.length := by
  obtain ⟨r, _, h⟩ := scanned s
  have := congrArg List.length h
  rw [List.length_append] at this
  unfold scanP; omega
theorem scanL_len (s : Str) : (scanL s).length ≤ s.length := Nat.le_trans (sealAll_len _) (scanP_le s)

theorem scan_loop {s : Str} (hl : s.length ≤ 1099511627776) : ∀ {q : Str} {l : List Str} {r : Str}, Scanned q l r → ∀ (acc : List Str) (g : Int), s = sealAll acc ++ q → ((acc = [] ∧ g = 0) ∨ g = (sealAll acc).length) →
    loop (fun (s1 : List Str × Int × Str) => wal_Scan_l1 s s1.1 s1.2.1 s1.2.2) (acc, g, q) = some (acc ++ l, ((sealAll (acc ++ l)).length : Int)) := by
  intro q l r h
  induction h with
  | @stop q h =>
    intro acc g hs hg
    have hql : q.length ≤ s.length := by rw [hs]; simp
    refine loop_inr ?_
    simp only
    unfold wal_Scan_l1
    rw [open_eq (by omega) (by omega)]
    simp only [Option.bind_some]
    rw [if_pos (by simp [h]), List.append_nil]
    rcases hg with ⟨rfl, rfl⟩ | rfl
    · rfl
    · rfl
  | @next q l r h k ih =>
    intro acc g hs hg
    have hql : q.length ≤ s.length := by rw [hs]; simp
    obtain ⟨e1, _, _⟩ := open_inv (most := 2048) h
    have hs2 : s = sealAll (acc ++ [(openM q 2048).1]) ++ (openM q 2048).2.1 := by
      rw [sealAll_append, List.append_assoc]
      simp only [sealAll, List.append_nil]
      rw [← e1]; exact hs
    have hlen := sealAll_len (acc ++ [(openM q 2048).1])
    have hsl := congrArg List.length hs2
    rw [List.length_append] at hsl
    simp only [List.length_append, List.length_cons, List.length_nil] at hlen
    rw [loop_inl (s' := (acc ++ [(openM q 2048).1], ((sealAll (acc ++ [(openM q 2048).1])).length : Int), (openM q 2048).2.1))]
    · rw [ih _ _ hs2 (.inr rfl), List.append_assoc]; rfl
    · simp only
      unfold wal_Scan_l1
      rw [open_eq (by omega) (by omega)]
      simp only [Option.bind_some]
      rw [if_neg (by simp [h]), need_pos (by omega), IntWalk.i64_in _ ⟨by omega, by omega⟩]
      congr 3
      congr 1
      omega
theorem scan_eq {s : Str} (hl : s.length ≤ 1099511627776) : wal_Scan s = some (scanL s, (scanP s : Int)) := by
  obtain ⟨r, h, _⟩ := scanned s
  unfold wal_Scan
  rw [scan_loop hl h [] 0 rfl (.inl ⟨rfl, rfl⟩)]
  rfl
end Go.Ab
