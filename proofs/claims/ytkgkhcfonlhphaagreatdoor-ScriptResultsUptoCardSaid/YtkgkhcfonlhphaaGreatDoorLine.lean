/- Plain: the words of a shown operation are its words. -/
import Derived.Test.YtkgkhcfonlhphaaGreatDoorTakeK
namespace Go.Proofs.YtkgkhcfonlhphaaGreatDoor
open Uni

def Bal (a : List UInt8) : Prop := ∀ cur r, parts false cur (a ++ r) = parts false (cur ++ a) r

theorem Bal.append {a b : List UInt8} (h : Bal a) (k : Bal b) : Bal (a ++ b) := fun cur r => by
  rw [List.append_assoc, h, k, List.append_assoc]

theorem bal_plain : ∀ (a : List UInt8), (∀ b ∈ a, b ≠ 34 ∧ b ≠ 32) → Bal a := by
  intro a
  induction a with
  | nil => intro _ cur r; simp
  | cons c a ih =>
    intro h cur r
    have hc := h c (by simp)
    rw [List.cons_append, parts, if_neg hc.1, if_neg (fun e => hc.2 e.1), ih (fun b hb => h b (by simp [hb]))]
    simp

theorem parts_in : ∀ (a cur r : List UInt8), (∀ b ∈ a, b ≠ 34) → parts true cur (a ++ r) = parts true (cur ++ a) r := by
  intro a
  induction a with
  | nil => intro cur r _; simp
  | cons c a ih =>
    intro cur r h
    rw [List.cons_append, parts, if_neg (h c (by simp)), if_neg (fun e => by cases e.2), ih _ _ (fun b hb => h b (by simp [hb]))]
    simp

theorem raw_no_quote (L : List UInt8) (hne : L ≠ []) (h : raw L = true) : ∀ b ∈ L.take (decL L).2, b ≠ 34 := by
  intro b hb
  rintro rfl
  by_cases hl : (decL L).1 < 128
  · obtain ⟨a, r, rfl, h1, h2⟩ := dec_low L hne hl
    rw [h2] at hb
    simp at hb
    subst hb
    unfold raw at h
    rw [h1] at h
    simp [plainB] at h
  · have := dec_bytes_high L hne (by omega) _ hb
    simp at this

theorem hexD_no (x : Nat) (h : x < 16) : hexD x ≠ 34 := by
  have : ∀ x, x < 16 → hexD x ≠ 34 := by decide
  exact this x h

theorem pct_no (b : UInt8) : ∀ c ∈ pct b, c ≠ 34 := by
  intro c hc
  have hb := b.toNat_lt
  simp only [pct, List.mem_cons, List.not_mem_nil, or_false] at hc
  rcases hc with rfl | rfl | rfl
  · decide
  · exact hexD_no _ (by omega)
  · exact hexD_no _ (by omega)

theorem qrest_no : ∀ (n : Nat) (l : List UInt8), l.length ≤ n → ∀ b ∈ qrest l, b ≠ 34 := by
  intro n
  induction n with
  | zero =>
    intro l hl
    have : l = [] := List.length_eq_zero_iff.1 (by omega)
    subst this
    intro b hb
    cases hb
  | succ n ih =>
    intro l hl
    by_cases hne : l = []
    · subst hne
      intro b hb
      cases hb
    · have h1 := dec_pos l
      have hr := ih (l.drop (decL l).2) (by rw [List.length_drop]; omega)
      rw [qrest_step l hne]
      intro b hb
      rcases List.mem_append.1 hb with h | h
      · unfold piece at h
        split at h
        · rename_i hraw
          exact raw_no_quote l hne hraw b h
        · obtain ⟨x, _, hx⟩ := List.mem_flatMap.1 h
          exact pct_no x b hx
      · exact hr b h

theorem bal_quote (s : List UInt8) : Bal (quoteL s) := by
  intro cur r
  unfold quoteL
  rw [List.cons_append, parts, if_pos rfl, List.append_assoc]
  show parts true (cur ++ [34]) (qrest s ++ 34 :: r) = _
  rw [parts_in _ _ _ (qrest_no _ s (Nat.le_refl _)), parts, if_pos rfl]
  simp

theorem parts_join : ∀ (l : List (List UInt8)) (a : List UInt8), (∀ x ∈ a :: l, Bal x) → parts false [] (a ++ l.flatMap (fun x => 32 :: x)) = a :: l := by
  intro l
  induction l with
  | nil =>
    intro a h
    rw [List.flatMap_nil, h a (by simp)]
    simp [parts]
  | cons b l ih =>
    intro a h
    rw [List.flatMap_cons, h a (by simp), List.nil_append, List.cons_append, parts, if_neg (by decide), if_pos ⟨rfl, rfl⟩, ih b (fun x hx => h x (by simp [List.mem_cons.1 hx]))]

theorem bal_numT (n : Int) : Bal (numT n) := by
  refine bal_plain _ fun b hb => ?_
  unfold numT at hb
  split at hb
  · cases hb
  · rcases itoa_bytes n b hb with rfl | h
    · exact ⟨by decide, by decide⟩
    · unfold isDec at h
      exact ⟨by rintro rfl; simp at h, by rintro rfl; simp at h⟩

theorem bal_strT (s : ByteArray) : Bal (strT s) := by
  unfold strT
  split
  · intro cur r; simp
  · exact bal_quote _

theorem bal_fieldT (o : OpV) (k : Nat) : Bal ((fieldT o).getD k []) := by
  match k with
  | 0 => exact bal_numT _
  | 1 => exact bal_numT _
  | 2 => exact bal_numT _
  | 3 => exact bal_strT _
  | 4 => exact bal_strT _
  | 5 => exact bal_strT _
  | 6 => exact bal_numT _
  | 7 => exact bal_numT _
  | 8 => exact bal_numT _
  | k + 9 => intro cur r; simp [fieldT]

theorem fieldN_no (k : Nat) : ∀ b ∈ fieldN k, b ≠ 34 ∧ b ≠ 32 ∧ b ≠ 61 := by
  have h : ∀ y ∈ fieldKeys.map (·.2.2.2.data.toList), ∀ b ∈ y, b ≠ 34 ∧ b ≠ 32 ∧ b ≠ 61 := by decide
  intro b hb
  unfold fieldN at hb
  rw [List.getD_eq_getElem?_getD] at hb
  cases hk : (fieldKeys.map (·.2.2.2.data.toList))[k]? with
  | none => rw [hk] at hb; cases hb
  | some y => rw [hk] at hb; exact h y (List.mem_of_getElem? hk) b hb

theorem nameB_no (k : Int) : ∀ b ∈ (nameB k).data.toList, b ≠ 34 ∧ b ≠ 32 := by
  have h : ∀ y ∈ kindNames, ∀ b ∈ y.data.toList, b ≠ 34 ∧ b ≠ 32 := by decide
  intro b hb
  unfold nameB at hb
  split at hb
  · cases hb
  · rw [List.getD_eq_getElem?_getD] at hb
    cases hk : kindNames[k.toNat]? with
    | none => rw [hk] at hb; cases hb
    | some y => rw [hk] at hb; exact h y (List.mem_of_getElem? hk) b hb

/-- the words of a shown operation -/
theorem parts_show (o : OpV) (hn : (nameB o.kind).size ≠ 0) : parts false [] (showL o) = showW o := by
  unfold showL
  rw [if_neg hn]
  unfold showW
  rw [join_cons]
  refine parts_join _ _ fun x hx => ?_
  rcases List.mem_cons.1 hx with rfl | hx
  · exact bal_plain _ (nameB_no _)
  · rcases List.mem_append.1 hx with h | h
    · obtain ⟨k, _, hk⟩ := List.mem_flatMap.1 h
      unfold fieldW at hk
      split at hk
      · cases hk
      · rw [List.mem_singleton.1 hk]
        refine (bal_plain _ fun b hb => ⟨(fieldN_no k b hb).1, (fieldN_no k b hb).2.1⟩).append ?_
        exact (bal_plain [61] (by decide)).append (bal_fieldT o k)
    · obtain ⟨s, _, rfl⟩ := List.mem_map.1 h
      exact (bal_plain _ (by decide)).append (bal_quote _)

end Go.Proofs.YtkgkhcfonlhphaaGreatDoor
