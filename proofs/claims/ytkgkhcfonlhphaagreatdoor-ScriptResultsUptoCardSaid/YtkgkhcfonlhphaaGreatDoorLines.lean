/- Plain: lines joined by newlines are parted at them; a shown operation's line; Parse at the lines that the laws need. -/
import Derived.Test.YtkgkhcfonlhphaaGreatDoorParse
import Derived.Lib.SplitLaws
namespace Go.Proofs.YtkgkhcfonlhphaaGreatDoor
open Uni
open Go.RowKit

/-- lines, joined -/
def linesL : List (List UInt8) → List UInt8
  | [] => []
  | [a] => a
  | a :: b :: r => a ++ 10 :: linesL (b :: r)

theorem index_no (a : List UInt8) (c : UInt8) (h : ∀ b ∈ a, b ≠ c) : Lib.index a [c] = -1 := by
  induction a with
  | nil => rfl
  | cons b a ih =>
    have hi := ih (fun x hx => h x (by simp [hx]))
    have hb := h b (by simp)
    rw [Lib.index, hi]
    have e : List.isPrefixOf [c] (b :: a) = false := by
      simp [List.isPrefixOf]
      exact fun e => hb e.symm
    rw [e]
    rfl

theorem lines_count : ∀ ls : List (List UInt8), ls ≠ [] → (∀ l ∈ ls, ∀ b ∈ l, b ≠ 10) → Lib.count (linesL ls) [10] + 1 = ls.length
  | [], h, _ => absurd rfl h
  | [a], _, h => by
    rw [Lib.count_one]
    show a.count 10 + 1 = 1
    rw [List.count_eq_zero_of_not_mem (fun hm => h a (by simp) 10 hm rfl)]
  | a :: b :: r, _, h => by
    have ih := lines_count (b :: r) (by simp) (fun l hl => h l (List.mem_cons_of_mem _ hl))
    rw [Lib.count_one] at ih ⊢
    show (a ++ 10 :: linesL (b :: r)).count 10 + 1 = _
    rw [List.count_append, List.count_eq_zero_of_not_mem (fun hm => h a (by simp) 10 hm rfl), List.count_cons_self]
    simp only [List.length_cons] at ih ⊢
    omega

theorem lines_split : ∀ (ls : List (List UInt8)) (k : Nat), ls.length = k + 1 → (∀ l ∈ ls, ∀ b ∈ l, b ≠ 10) → Lib.splitK [10] 0 k (linesL ls) = ls
  | [], k, h, _ => by simp at h
  | [a], k, h, _ => by
    have : k = 0 := by simpa using h.symm
    subst this
    rfl
  | a :: b :: r, 0, h, _ => by simp at h
  | a :: b :: r, k + 1, h, hn => by
    have ih := lines_split (b :: r) k (by simpa using h) (fun l hl => hn l (List.mem_cons_of_mem _ hl))
    have hi : Lib.index (linesL (a :: b :: r)) [10] = a.length := index_at a _ 10 (hn a (by simp))
    rw [Lib.splitK, if_neg (by rw [hi]; simp), hi]
    show List.take _ (a ++ 10 :: linesL (b :: r)) :: Lib.splitK [10] 0 k (List.drop _ (a ++ 10 :: linesL (b :: r))) = _
    have e1 : List.take (((a.length : Nat) : Int).toNat + 0) (a ++ 10 :: linesL (b :: r)) = a := by simp
    have e2 : List.drop (((a.length : Nat) : Int).toNat + [(10 : UInt8)].length) (a ++ 10 :: linesL (b :: r)) = linesL (b :: r) := by
      have e3 : ((a.length : Nat) : Int).toNat + [(10 : UInt8)].length = (a ++ [(10 : UInt8)]).length := by simp
      rw [e3, show a ++ 10 :: linesL (b :: r) = (a ++ [(10 : UInt8)]) ++ linesL (b :: r) by simp, List.drop_left]
    rw [e1, e2, ih]

theorem lines_splitB (ls : List (List UInt8)) (hne : ls ≠ []) (h : ∀ l ∈ ls, ∀ b ∈ l, b ≠ 10) : Lib.countB ⟨(linesL ls).toArray⟩ ⟨#[10]⟩ + 1 = ls.length ∧
    Lib.splitB ⟨#[10]⟩ 0 (Lib.countB ⟨(linesL ls).toArray⟩ ⟨#[10]⟩) ⟨(linesL ls).toArray⟩ = ls.map (fun l => (⟨l.toArray⟩ : ByteArray)) := by
  have hc : Lib.countB ⟨(linesL ls).toArray⟩ ⟨#[10]⟩ + 1 = ls.length := lines_count ls hne h
  refine ⟨hc, ?_⟩
  have hd := Lib.splitB_data ⟨#[10]⟩ 0 (Lib.countB ⟨(linesL ls).toArray⟩ ⟨#[10]⟩) ⟨(linesL ls).toArray⟩
  rw [show (⟨#[10]⟩ : ByteArray).data.toList = [10] from rfl, show (⟨(linesL ls).toArray⟩ : ByteArray).data.toList = linesL ls from rfl, lines_split ls _ hc.symm h] at hd
  have he : ∀ (x y : List ByteArray), x.map (·.data.toList) = y.map (·.data.toList) → x = y := by
    intro x
    induction x with
    | nil => intro y h; cases y with
      | nil => rfl
      | cons _ _ => simp at h
    | cons a x ih => intro y h; cases y with
      | nil => simp at h
      | cons b y =>
        simp only [List.map_cons, List.cons.injEq] at h
        rw [ih y h.2, ← bytes_eta' a, h.1, bytes_eta']
  refine he _ _ (hd.trans ?_)
  rw [List.map_map]
  exact (List.map_id _).symm

theorem raw_no_nl (L : List UInt8) (hne : L ≠ []) (h : raw L = true) : ∀ b ∈ L.take (decL L).2, b ≠ 10 := by
  intro b hb
  rintro rfl
  by_cases hl : (decL L).1 < 128
  · obtain ⟨a, r, rfl, h1, h2⟩ := dec_low L hne hl
    rw [h2] at hb
    simp at hb
    subst hb
    unfold raw at h
    rw [h1] at h
    simp [plainB] at h
  · have := dec_bytes_high L hne (by omega) _ hb
    simp at this

theorem pct_no_nl (b : UInt8) : ∀ c ∈ pct b, c ≠ 10 := by
  intro c hc
  have hb := b.toNat_lt
  have hx : ∀ x, x < 16 → hexD x ≠ 10 := by decide
  simp only [pct, List.mem_cons, List.not_mem_nil, or_false] at hc
  rcases hc with rfl | rfl | rfl
  · decide
  · exact hx _ (by omega)
  · exact hx _ (by omega)

theorem qrest_no_nl : ∀ (n : Nat) (l : List UInt8), l.length ≤ n → ∀ b ∈ qrest l, b ≠ 10 := by
  intro n
  induction n with
  | zero =>
    intro l hl
    have : l = [] := List.length_eq_zero_iff.1 (by omega)
    subst this
    intro b hb
    cases hb
  | succ n ih =>
    intro l hl
    by_cases hne : l = []
    · subst hne
      intro b hb
      cases hb
    · have h1 := dec_pos l
      have hr := ih (l.drop (decL l).2) (by rw [List.length_drop]; omega)
      rw [qrest_step l hne]
      intro b hb
      rcases List.mem_append.1 hb with h | h
      · unfold piece at h
        split at h
        · rename_i hraw
          exact raw_no_nl l hne hraw b h
        · obtain ⟨x, _, hx⟩ := List.mem_flatMap.1 h
          exact pct_no_nl x b hx
      · exact hr b h

theorem quote_no_nl (s : List UInt8) : ∀ b ∈ quoteL s, b ≠ 10 := by
  intro b hb
  unfold quoteL at hb
  rcases List.mem_cons.1 hb with rfl | hb
  · decide
  · rcases List.mem_append.1 hb with h | h
    · exact qrest_no_nl _ s (Nat.le_refl _) b h
    · rw [List.mem_singleton.1 h]
      decide

theorem itoa_no_nl (n : Int) : ∀ b ∈ Lib.itoa n, b ≠ 10 := by
  intro b hb
  rcases itoa_bytes n b hb with rfl | h
  · decide
  · unfold isDec at h
    rintro rfl
    simp at h

theorem fieldT_no_nl (o : OpV) (k : Nat) : ∀ b ∈ (fieldT o).getD k [], b ≠ 10 := by
  have hn : ∀ n, ∀ b ∈ numT n, b ≠ 10 := fun n b hb => by
    unfold numT at hb
    split at hb
    · cases hb
    · exact itoa_no_nl n b hb
  have hs : ∀ s, ∀ b ∈ strT s, b ≠ 10 := fun s b hb => by
    unfold strT at hb
    split at hb
    · cases hb
    · exact quote_no_nl _ b hb
  match k with
  | 0 => exact hn _
  | 1 => exact hn _
  | 2 => exact hn _
  | 3 => exact hs _
  | 4 => exact hs _
  | 5 => exact hs _
  | 6 => exact hn _
  | 7 => exact hn _
  | 8 => exact hn _
  | k + 9 => intro b hb; simp [fieldT] at hb

theorem fieldN_no_nl (k : Nat) : ∀ b ∈ fieldN k, b ≠ 10 := by
  have h : ∀ y ∈ fieldKeys.map (·.2.2.2.data.toList), ∀ b ∈ y, b ≠ 10 := by decide
  intro b hb
  unfold fieldN at hb
  rw [List.getD_eq_getElem?_getD] at hb
  cases hk : (fieldKeys.map (·.2.2.2.data.toList))[k]? with
  | none => rw [hk] at hb; cases hb
  | some y => rw [hk] at hb; exact h y (List.mem_of_getElem? hk) b hb

theorem nameB_letters (k : Int) : ∀ b ∈ (nameB k).data.toList, 97 ≤ b.toNat := by
  have h : ∀ y ∈ kindNames, ∀ b ∈ y.data.toList, 97 ≤ b.toNat := by decide
  intro b hb
  unfold nameB at hb
  split at hb
  · cases hb
  · rw [List.getD_eq_getElem?_getD] at hb
    cases hk : kindNames[k.toNat]? with
    | none => rw [hk] at hb; cases hb
    | some y => rw [hk] at hb; exact h y (List.mem_of_getElem? hk) b hb

/-- has the kind a name? -/
def named (o : OpV) : Prop := 0 ≤ o.kind ∧ o.kind < 17
theorem named_size {o : OpV} (h : named o) : (nameB o.kind).size ≠ 0 := by
  have hs : ∀ j, j < 17 → (kindNames.getD j ⟨#[]⟩).data.size ≠ 0 := by decide
  unfold nameB
  rw [if_neg (by have := h.1; have := h.2; omega)]
  exact hs _ (by have := h.1; have := h.2; omega)
theorem named_of (o : OpV) (h : (nameB o.kind).size ≠ 0) : named o := by
  unfold nameB at h
  split at h
  · exact absurd rfl h
  · unfold named; omega

theorem showL_named {o : OpV} (h : named o) : showL o = (nameB o.kind).data.toList ++ (tailW o).flatMap (fun x => 32 :: x) := by
  unfold showL
  rw [if_neg (named_size h)]
  unfold showW
  rw [join_cons]
  rfl

theorem show_head {o : OpV} (h : named o) : ∃ c t, showL o = c :: t ∧ c ≠ 35 := by
  rw [showL_named h]
  have hs := named_size h
  cases hn : (nameB o.kind).data.toList with
  | nil =>
    have : (nameB o.kind).data.toList.length = 0 := by rw [hn]; rfl
    exact absurd (by simpa using this) hs
  | cons c t =>
    refine ⟨c, _, rfl, ?_⟩
    have := nameB_letters o.kind c (by rw [hn]; simp)
    rintro rfl
    simp at this

theorem tailW_no_nl (o : OpV) : ∀ x ∈ tailW o, ∀ b ∈ x, b ≠ 10 := by
  intro x hx b hb
  unfold tailW at hx
  rcases List.mem_append.1 hx with h | h
  · obtain ⟨k, _, hk⟩ := List.mem_flatMap.1 h
    unfold fieldW at hk
    split at hk
    · cases hk
    · rw [List.mem_singleton.1 hk] at hb
      rcases List.mem_append.1 hb with h | h
      · exact fieldN_no_nl k b h
      · rcases List.mem_cons.1 h with rfl | h
        · decide
        · exact fieldT_no_nl o k b h
  · obtain ⟨s, _, rfl⟩ := List.mem_map.1 h
    unfold keepW at hb
    rcases List.mem_append.1 hb with h | h
    · have hk : ∀ b ∈ [(107 : UInt8), 101, 101, 112, 61], b ≠ 10 := by decide
      exact hk b h
    · exact quote_no_nl _ b h

theorem show_no_nl {o : OpV} (h : named o) : ∀ b ∈ showL o, b ≠ 10 := by
  intro b hb
  rw [showL_named h] at hb
  rcases List.mem_append.1 hb with h1 | h1
  · have := nameB_letters o.kind b h1
    rintro rfl
    simp at this
  · obtain ⟨x, hx, hb⟩ := List.mem_flatMap.1 h1
    rcases List.mem_cons.1 hb with rfl | hb
    · decide
    · exact tailW_no_nl o x hx b hb

theorem names_apart : ∀ i, i < 17 → ∀ j, j < i → ((nameB (j : Nat)).data.toList == (nameB (i : Nat)).data.toList) = false := by decide
theorem names_nothing : ∀ j, j < 17 → ((nameB (j : Nat)).data.toList == [110, 111, 116, 104, 105, 110, 103]) = false := by decide

theorem parse_show (o : OpV) (ho : o.ok) (hn : named o) (w : World) (hT : Tabs3 w) : Calls Tryz.prog 13 #[.string ⟨(showL o).toArray⟩] w fun e w' => Below w.heap.size w w' ∧ ∃ A c, e = .returned (.tuple #[.agg (o.cells A c), .int .i64 0]) ∧ KeepAt w' o A c ∧ ∀ a, A = some a → w.heap.size ≤ a.block := by
  obtain ⟨i, hi⟩ : ∃ i : Nat, o.kind = i := ⟨o.kind.toNat, by have := hn.1; omega⟩
  have hi17 : i < 17 := by have := hn.2; omega
  have hlen : (showL o).length ≤ 400000 := by
    unfold showL
    rw [if_neg (named_size hn)]
    exact showW_length o ho
  refine (scr_Parse o ho ⟨(showL o).toArray⟩ ?_ (nameB o.kind).data.toList ?_ hn.1 (by omega) ?_ ?_ (fun _ => rfl) w hT).mono ?_
  · show (showL o).toArray.size ≤ _
    rw [List.size_toArray]
    omega
  · exact parts_show o (named_size hn)
  · intro j hj
    rw [bytes_eta', ByteArray.toList_eq, ByteArray.toList_eq, hi]
    exact names_apart i hi17 j (by omega)
  · intro _
    rw [bytes_eta']
    exact beq_self_eq_true _
  · rintro e w' ⟨hb, ⟨h17, _⟩ | ⟨_, h⟩⟩
    · omega
    · exact ⟨hb, h⟩

def opNone : OpV := ⟨17, 0, 0, 0, ⟨#[]⟩, ⟨#[]⟩, ⟨#[]⟩, 0, 0, 0, []⟩
theorem opNone_ok : opNone.ok := ⟨⟨by decide, by decide⟩, ⟨by decide, by decide⟩, ⟨by decide, by decide⟩, ⟨by decide, by decide⟩, ⟨by decide, by decide⟩, ⟨by decide, by decide⟩, ⟨by decide, by decide⟩, by decide, by decide, by decide, by decide, by intro k hk; cases hk⟩
def nothingL : List UInt8 := [110, 111, 116, 104, 105, 110, 103]

theorem parse_nothing (w : World) (hT : Tabs3 w) : Calls Tryz.prog 13 #[.string ⟨nothingL.toArray⟩] w fun e w' => Below w.heap.size w w' ∧ e = .returned (.tuple #[.agg (kindCells 0), .int .i64 13]) := by
  refine (scr_Parse opNone opNone_ok ⟨nothingL.toArray⟩ (by decide) nothingL ?_ (by decide) (by decide) ?_ (fun h => absurd h (by decide)) (fun h => absurd h (by decide)) w hT).mono ?_
  · decide
  · intro j hj
    rw [ByteArray.toList_eq, ByteArray.toList_eq]
    have : j < 17 := by
      have : (j : Int) < 17 := hj
      omega
    exact names_nothing j this
  · rintro e w' ⟨hb, ⟨_, h⟩ | ⟨h, _⟩⟩
    · exact ⟨hb, h⟩
    · exact absurd h (by decide)

end Go.Proofs.YtkgkhcfonlhphaaGreatDoor
