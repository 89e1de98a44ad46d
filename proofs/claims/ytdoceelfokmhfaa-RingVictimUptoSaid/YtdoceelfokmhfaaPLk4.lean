/- Who stands in the way, as the document says (plain). -/
import Derived.Test.YtdoceelfokmhfaaPLk3
namespace Go.Ab
set_option linter.unusedVariables false
set_option linter.unusedSimpArgs false

def Srt (l : List Int) : Prop := l.Pairwise (fun a b => a < b)
theorem putM_cons (x : Int) (r : List Int) (n : Int) : putM (x :: r) n = if x = n then x :: r else if n < x then n :: x :: r else x :: putM r n := by
  unfold putM
  conv => lhs; unfold putD
  by_cases h1 : x = n
  · simp [h1, putD_true]
  · by_cases h2 : n < x
    · simp [h1, h2, putD_true]
    · simp [h1, h2]
theorem putM_mem (l : List Int) (n x : Int) : x ∈ putM l n ↔ x = n ∨ x ∈ l := by
  induction l with
  | nil => simp [putM, putD]
  | cons y r ih =>
    rw [putM_cons]
    split
    · rename_i h; subst h; simp
    · split
      · simp
      · simp only [List.mem_cons, ih]
        constructor
        · rintro (h | h | h) <;> simp [h]
        · rintro (h | h | h) <;> simp [h]
theorem putM_srt {l : List Int} (h : Srt l) (n : Int) : Srt (putM l n) := by
  induction l with
  | nil => simp [putM, putD, Srt]
  | cons y r ih =>
    have h1 := List.pairwise_cons.1 h
    rw [putM_cons]
    split
    · exact h
    · split
      · rename_i h2 h3
        refine List.pairwise_cons.2 ⟨fun a ha => ?_, h⟩
        rcases List.mem_cons.1 ha with rfl | ha
        · exact h3
        · have := h1.1 a ha; omega
      · rename_i h2 h3
        refine List.pairwise_cons.2 ⟨fun a ha => ?_, ih h1.2⟩
        rcases (putM_mem r n a).1 ha with rfl | ha
        · omega
        · exact h1.1 a ha
theorem putM_len (l : List Int) (n : Int) : (putM l n).length ≤ l.length + 1 := by
  induction l with
  | nil => simp [putM, putD]
  | cons y r ih =>
    rw [putM_cons]
    split
    · omega
    · split
      · simp
      · simp only [List.length_cons]; omega
theorem srt_nodup {l : List Int} (h : Srt l) : l.Nodup := h.imp fun h => by omega
theorem srt_unique {l ks : List Int} (h : Srt l) (hn : ks.Nodup) (hm : ∀ x, x ∈ l ↔ x ∈ ks) : l = ks.mergeSort leI := by
  have hp : l.Perm ks := (List.perm_ext_iff_of_nodup (srt_nodup h) hn).2 hm
  rw [← mergeSort_of_perm_i hp]
  exact (List.mergeSort_of_pairwise (h.imp fun h => by simp [leI]; omega)).symm

def addR (txn : Int) (w : Want) (ks : List Int) (t : Int) (v : Want) : List Int := if clashM v w = true ∧ t ≠ txn then putM ks t else ks
theorem addR_mem (txn : Int) (w : Want) (ks : List Int) (t : Int) (v : Want) (x : Int) : x ∈ addR txn w ks t v ↔ x ∈ ks ∨ (x = t ∧ t ≠ txn ∧ clashM v w = true) := by
  unfold addR; split
  · rename_i h; rw [putM_mem]; simp [h, or_comm]
  · rename_i h
    constructor
    · exact .inl
    · rintro (h1 | ⟨_, h1, h2⟩)
      · exact h1
      · exact absurd ⟨h2, h1⟩ h
/-- The two folds hold the same. -/
theorem folds_same {α : Type} (T : α → Int) (W : α → Want) (txn : Int) (w : Want) (l : List α) : ∀ (a b : List Int), Srt a → b.Nodup → (∀ x, x ∈ a ↔ x ∈ b) →
    Srt (l.foldl (fun ks x => addR txn w ks (T x) (W x)) a) ∧ (l.foldl (fun ks x => addB txn w ks (T x) (W x)) b).Nodup ∧ ∀ x, x ∈ l.foldl (fun ks x => addR txn w ks (T x) (W x)) a ↔ x ∈ l.foldl (fun ks x => addB txn w ks (T x) (W x)) b := by
  induction l with
  | nil => intro a b h1 h2 h3; exact ⟨h1, h2, h3⟩
  | cons y r ih =>
    intro a b h1 h2 h3
    rw [List.foldl_cons, List.foldl_cons]
    refine ih _ _ ?_ (addB_nodup h2 ..) (fun x => ?_)
    · unfold addR; split
      · exact putM_srt h1 _
      · exact h1
    · rw [addR_mem, addB_mem, h3]
theorem addR_len (txn : Int) (w : Want) (ks : List Int) (t : Int) (v : Want) : (addR txn w ks t v).length ≤ ks.length + 1 := by
  unfold addR; split
  · exact putM_len ks t
  · omega
theorem rblockers_eq {l : Locks} (hl : LOk l) (txn : Int) {w : Want} (hw : wOk w) (n : Int) (hn64 : n ≤ 9223372036854775807) : ref10_Blockers l txn w n = some (blockM l txn w n.toNat) := by
  have hh := hl.heldL
  have hq := hl.queL
  have h1 := fold_loop (ρ := List Int) l.Held (fun k (ks : List Int) => (ks, (k : Int))) (fun (s282 : (List Int) × Int) => ref10_Blockers_l2 l txn w s282.1 s282.2) (fun ks x => addR txn w ks x.Txn x.W) (fun ks => ks) (fun k ks => ks.length ≤ k)
    (fun k x ks hk hi => by
      have hlt := (List.getElem?_eq_some_iff.1 hk).1
      have hx := (List.getElem?_eq_some_iff.1 hk).2
      obtain ⟨ht, hwx⟩ := hl.held x (List.mem_of_getElem? hk)
      refine ⟨?_, Nat.le_trans (addR_len ..) (by omega)⟩
      simp only
      unfold ref10_Blockers_l2 addR
      rw [if_pos (by simpa using hlt), ix_in hlt, hx]
      simp only [Option.bind_some]
      rw [rclash_eq hwx hw, IntWalk.i64_in _ ⟨by omega, by omega⟩]
      simp only [Option.bind_some]
      by_cases h1 : clashM x.W w = true ∧ x.Txn ≠ txn
      · rw [if_pos (by simpa using h1), if_pos h1, put_eq (by omega)]; rfl
      · rw [if_neg (by simpa using h1), if_neg h1]; rfl)
    (fun ks _ => by
      simp only
      unfold ref10_Blockers_l2
      rw [if_neg (by simp)]) [] (by simp)
  have hlenT : (l.Queue.take n.toNat).length = min n.toNat l.Queue.length := List.length_take ..
  have h2 := fold_loop (ρ := List Int) (l.Queue.take n.toNat) (fun k (ks : List Int) => (ks, (k : Int))) (fun (s670 : (List Int) × Int) => ref10_Blockers_l4 l txn w n s670.1 s670.2) (fun ks x => addR txn w ks x.Txn x.W) (fun ks => ks) (fun k ks => ks.length ≤ 2000000 + k)
    (fun k x ks hk hi => by
      have hlt := (List.getElem?_eq_some_iff.1 hk).1
      obtain ⟨ht, hwx⟩ := hl.que x (List.mem_of_mem_take (List.mem_of_getElem? hk))
      have hlt2 : k < l.Queue.length := by omega
      have hx : l.Queue[k] = x := by
        have := (List.getElem?_eq_some_iff.1 hk).2
        rw [← this]; simp
      refine ⟨?_, Nat.le_trans (addR_len ..) (by omega)⟩
      simp only
      unfold ref10_Blockers_l4 addR
      rw [if_pos (by simp; omega), ix_in hlt2, hx]
      simp only [Option.bind_some]
      rw [rclash_eq hwx hw, IntWalk.i64_in _ ⟨by omega, by omega⟩]
      simp only [Option.bind_some]
      by_cases h1 : clashM x.W w = true ∧ x.Txn ≠ txn
      · rw [if_pos (by simpa using h1), if_pos h1, put_eq (by omega)]; rfl
      · rw [if_neg (by simpa using h1), if_neg h1]; rfl)
    (fun ks _ => by
      simp only
      unfold ref10_Blockers_l4
      rw [if_neg (by simp; omega)]) (l.Held.foldl (fun ks x => addR txn w ks x.Txn x.W) []) (by
        have h3 : (l.Held.foldl (fun ks x => addR txn w ks x.Txn x.W) []).length ≤ l.Held.length := h1.2
        omega)
  have e1 : loop (fun (s282 : (List Int) × Int) => ref10_Blockers_l2 l txn w s282.1 s282.2) (([] : List Int), (0 : Int)) = some (l.Held.foldl (fun ks x => addR txn w ks x.Txn x.W) []) := h1.1
  have e2 : loop (fun (s670 : (List Int) × Int) => ref10_Blockers_l4 l txn w n s670.1 s670.2) (l.Held.foldl (fun ks x => addR txn w ks x.Txn x.W) [], (0 : Int)) = some ((l.Queue.take n.toNat).foldl (fun ks x => addR txn w ks x.Txn x.W) (l.Held.foldl (fun ks x => addR txn w ks x.Txn x.W) [])) := h2.1
  unfold ref10_Blockers
  rw [e1]
  simp only [Option.bind_some]
  rw [e2]
  simp only [Option.bind_some]
  have f1 := folds_same (fun x : Hold => x.Txn) (fun x => x.W) txn w l.Held [] [] List.Pairwise.nil List.nodup_nil (fun _ => Iff.rfl)
  have f2 := folds_same (fun x : Claim => x.Txn) (fun x => x.W) txn w (l.Queue.take n.toNat) _ _ f1.1 f1.2.1 f1.2.2
  exact congrArg some (srt_unique f2.1 f2.2.1 f2.2.2)
theorem blockS_mem (l : Locks) (txn : Int) (w : Want) (n : Nat) (x : Int) : x ∈ blockM l txn w n ↔ (∃ h ∈ l.Held, h.Txn = x ∧ x ≠ txn ∧ clashM h.W w = true) ∨ (∃ c ∈ l.Queue.take n, c.Txn = x ∧ x ≠ txn ∧ clashM c.W w = true) := by
  have gen : ∀ {α : Type} (T : α → Int) (W : α → Want) (l : List α) (b : List Int), x ∈ l.foldl (fun ks y => addB txn w ks (T y) (W y)) b ↔ x ∈ b ∨ ∃ y ∈ l, T y = x ∧ x ≠ txn ∧ clashM (W y) w = true := by
    intro α T W l
    induction l with
    | nil => intro b; simp
    | cons y r ih =>
      intro b
      rw [List.foldl_cons, ih, addB_mem]
      constructor
      · rintro ((h | ⟨rfl, h2, h3⟩) | ⟨z, hz, h⟩)
        · exact .inl h
        · exact .inr ⟨y, List.mem_cons_self .., rfl, h2, h3⟩
        · exact .inr ⟨z, List.mem_cons_of_mem _ hz, h⟩
      · rintro (h | ⟨z, hz, h1, h2, h3⟩)
        · exact .inl (.inl h)
        · rcases List.mem_cons.1 hz with rfl | hz
          · exact .inl (.inr ⟨h1.symm, by rw [h1]; exact h2, h3⟩)
          · exact .inr ⟨z, hz, h1, h2, h3⟩
  unfold blockM blockS queB heldB
  rw [List.mem_mergeSort, gen, gen]
  simp
end Go.Ab
