/- Plain: a word cut at its sign '='; the operation under way when Parse has met the words below field k. -/
import Derived.Test.YtkgkhcfonlhphaaGreatDoorLine
namespace Go.Proofs.YtkgkhcfonlhphaaGreatDoor

theorem index_at : ∀ (a t : List UInt8) (c : UInt8), (∀ b ∈ a, b ≠ c) → Lib.index (a ++ c :: t) [c] = a.length := by
  intro a
  induction a with
  | nil => intro t c _; simp [Lib.index, List.isPrefixOf]
  | cons b a ih =>
    intro t c h
    have hb := h b (by simp)
    have hi := ih t c (fun x hx => h x (by simp [hx]))
    rw [List.cons_append, Lib.index, hi]
    have e : List.isPrefixOf [c] (b :: (a ++ c :: t)) = false := by
      simp [List.isPrefixOf]
      exact fun e => hb e.symm
    rw [e]
    rw [if_neg (by decide), if_neg (by simp)]
    simp

theorem cut_eq (a t : List UInt8) (h : ∀ b ∈ a, b ≠ 61) : Lib.cut (a ++ 61 :: t) [61] = (a, t, true) := by
  unfold Lib.cut
  rw [index_at a t 61 h, if_pos (by omega)]
  simp

theorem cut_field (k : Nat) (t : List UInt8) : Lib.cut (fieldN k ++ 61 :: t) [61] = (fieldN k, t, true) := cut_eq _ _ (fun b hb => (fieldN_no k b hb).2.2)

theorem cut_keep (s : ByteArray) : Lib.cut (keepW s) [61] = ([107, 101, 101, 112], quoteL s.data.toList, true) := cut_eq [107, 101, 101, 112] _ (by decide)

/-- the fields below `k` are the operation's, the others none; nothing is kept yet -/
def partCells (o : OpV) (k : Nat) (kv : Value) : Array Value :=
  #[.int .i64 o.kind, if 0 < k then .int .i64 o.level else .int .i64 0, if 1 < k then .int .i64 o.session else .int .i64 0, if 2 < k then .int .i64 o.snap else .int .i64 0,
    if 3 < k then .string o.bucket else .string ⟨#[]⟩, if 4 < k then .string o.key else .string ⟨#[]⟩, if 5 < k then .string o.value else .string ⟨#[]⟩,
    if 6 < k then .int .i64 o.label else .int .i64 0, if 7 < k then .int .i64 o.dst else .int .i64 0, if 8 < k then .int .i64 o.n else .int .i64 0, kv]

theorem part_size (o : OpV) (k : Nat) (kv : Value) : (partCells o k kv).size = 11 := rfl

theorem part_step (o : OpV) (k : Nat) (hk : k < 9) (kv : Value) : (partCells o k kv).setIfInBounds (k + 1) (fieldX o k) = partCells o (k + 1) kv := by
  have : k = 0 ∨ k = 1 ∨ k = 2 ∨ k = 3 ∨ k = 4 ∨ k = 5 ∨ k = 6 ∨ k = 7 ∨ k = 8 := by omega
  rcases this with rfl | rfl | rfl | rfl | rfl | rfl | rfl | rfl | rfl <;> rfl

theorem numT_nil (n : Int) (h : numT n = []) : n = 0 := by
  unfold numT at h
  split at h
  · assumption
  · exfalso
    unfold Lib.itoa at h
    split at h
    · cases h
    · exact dec_ne _ h

theorem strT_nil (s : ByteArray) (h : strT s = []) : s = ⟨#[]⟩ := by
  unfold strT at h
  split at h
  · exact empty_of_size (by assumption)
  · cases h

/-- a field that is not shown is none -/
theorem part_absent (o : OpV) (k : Nat) (hk : k < 9) (kv : Value) (h : (fieldT o).getD k [] = []) : partCells o k kv = partCells o (k + 1) kv := by
  have : k = 0 ∨ k = 1 ∨ k = 2 ∨ k = 3 ∨ k = 4 ∨ k = 5 ∨ k = 6 ∨ k = 7 ∨ k = 8 := by omega
  rcases this with rfl | rfl | rfl | rfl | rfl | rfl | rfl | rfl | rfl
  · have e := numT_nil o.level h; simp [partCells, e]
  · have e := numT_nil o.session h; simp [partCells, e]
  · have e := numT_nil o.snap h; simp [partCells, e]
  · have e := strT_nil o.bucket h; simp [partCells, e]
  · have e := strT_nil o.key h; simp [partCells, e]
  · have e := strT_nil o.value h; simp [partCells, e]
  · have e := numT_nil o.label h; simp [partCells, e]
  · have e := numT_nil o.dst h; simp [partCells, e]
  · have e := numT_nil o.n h; simp [partCells, e]

theorem part_all (o : OpV) (A : Option Addr) (c : Nat) : partCells o 9 (.slice A o.keep.length c) = o.cells A c := rfl

/-- the next word of a field: its field -/
theorem next_field (o : OpV) (kv : Value) (i : Nat) : ∀ (m k : Nat), k + m = 9 → ((List.range k).flatMap (fieldW o)).length = i → i < ((List.range 9).flatMap (fieldW o)).length →
    ∃ j, k ≤ j ∧ j < 9 ∧ ((List.range j).flatMap (fieldW o)).length = i ∧ (fieldT o).getD j [] ≠ [] ∧ partCells o k kv = partCells o j kv := by
  intro m
  induction m with
  | zero =>
    intro k hk hi hlt
    have : k = 9 := by omega
    subst this
    omega
  | succ m ih =>
    intro k hk hi hlt
    by_cases h : (fieldT o).getD k [] = []
    · have e : fieldW o k = [] := by unfold fieldW; rw [if_pos h]
      obtain ⟨j, h1, h2, h3, h4, h5⟩ := ih (k + 1) (by omega) (by rw [words_step, e, List.append_nil]; exact hi) hlt
      exact ⟨j, by omega, h2, h3, h4, (part_absent o k (by omega) kv h).trans h5⟩
    · exact ⟨k, Nat.le_refl _, by omega, hi, h, rfl⟩

end Go.Proofs.YtkgkhcfonlhphaaGreatDoor
