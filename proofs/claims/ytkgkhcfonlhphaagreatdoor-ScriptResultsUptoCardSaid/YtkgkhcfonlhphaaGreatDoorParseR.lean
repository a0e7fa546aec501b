/- A round of script.Parse's loop over words: what a word is, and what take makes of it. -/
import Derived.Test.YtkgkhcfonlhphaaGreatDoorSmallLaw
namespace Go.Proofs.YtkgkhcfonlhphaaGreatDoor
open Go.RowKit

/-- the words behind the kind's -/
def tailW (o : OpV) : List (List UInt8) := (List.range 9).flatMap (fieldW o) ++ o.keep.map keepW
def fLen (o : OpV) (k : Nat) : Nat := ((List.range k).flatMap (fieldW o)).length

theorem fLen_step (o : OpV) (k : Nat) : fLen o (k + 1) = fLen o k + (fieldW o k).length := by
  unfold fLen
  rw [words_step, List.length_append]

theorem fLen_mono (o : OpV) (k : Nat) : ∀ m, fLen o k ≤ fLen o (k + m)
  | 0 => Nat.le_refl _
  | m + 1 => by
    have := fLen_mono o k m
    rw [← Nat.add_assoc, fLen_step]
    omega

theorem field_prefix (o : OpV) (j : Nat) : ∀ n, ∃ r, (List.range (j + 1 + n)).flatMap (fieldW o) = (List.range (j + 1)).flatMap (fieldW o) ++ r
  | 0 => ⟨[], by simp⟩
  | n + 1 => by
    obtain ⟨r, h⟩ := field_prefix o j n
    rw [← Nat.add_assoc, words_step, h]
    exact ⟨r ++ fieldW o (j + 1 + n), by rw [List.append_assoc]⟩

theorem tail_field (o : OpV) (j : Nat) (hj : j < 9) (hne : (fieldT o).getD j [] ≠ []) : (tailW o)[fLen o j]? = some (fieldN j ++ 61 :: (fieldT o).getD j []) := by
  obtain ⟨r, h⟩ := field_prefix o j (8 - j)
  have e9 : j + 1 + (8 - j) = 9 := by omega
  rw [e9, words_step o j] at h
  have hw : fieldW o j = [fieldN j ++ 61 :: (fieldT o).getD j []] := by unfold fieldW; rw [if_neg hne]
  unfold tailW fLen
  rw [h, hw, List.append_assoc, List.append_assoc, List.getElem?_append_right (Nat.le_refl _), Nat.sub_self]
  rfl

theorem tail_keep (o : OpV) (m : Nat) (s : ByteArray) (h : o.keep[m]? = some s) : (tailW o)[fLen o 9 + m]? = some (keepW s) := by
  unfold tailW fLen
  rw [List.getElem?_append_right (Nat.le_add_right _ _), Nat.add_sub_cancel_left, List.getElem?_map, h]
  rfl

theorem tail_length (o : OpV) : (tailW o).length = fLen o 9 + o.keep.length := by
  unfold tailW fLen
  simp

theorem fLen_le (o : OpV) (k : Nat) : fLen o k ≤ k := words_upto o k

theorem part_rest (o : OpV) (kv : Value) : ∀ m k, k + m = 9 → fLen o k = fLen o 9 → partCells o k kv = partCells o 9 kv
  | 0, k, hk, _ => by
    have : k = 9 := by omega
    rw [this]
  | m + 1, k, hk, hl => by
    have h1 := fLen_mono o (k + 1) m
    have h2 : k + 1 + m = 9 := by omega
    rw [h2, fLen_step] at h1
    have h3 : (fieldW o k).length = 0 := by omega
    have h4 : (fieldT o).getD k [] = [] := by
      unfold fieldW at h3
      split at h3
      · assumption
      · simp at h3
    rw [part_absent o k (by omega) kv h4]
    exact part_rest o kv m (k + 1) h2 (by rw [fLen_step, h3]; omega)

/-- the tables that Parse reads -/
structure Tabs3 (w : World) : Prop where
  tabs2 : Tabs2 w
  maxAt : ∃ m, w.cell? ⟨4, 0, none⟩ = some (.int .i64 m)
theorem Tabs3.below {w w' : World} (h : Tabs3 w) (hb : Below w.heap.size w w') : Tabs3 w' := by
  obtain ⟨m, hm⟩ := h.maxAt
  exact ⟨h.tabs2.below hb, m, by rw [hb.cell (p := ⟨4, 0, none⟩) (block_lt_of_cell hm)]; exact hm⟩

theorem scr_cut_at (wd nmb tb : ByteArray) (h : Lib.cut wd.data.toList [61] = (nmb.data.toList, tb.data.toList, true)) (hs : wd.size ≤ 1000000) (w : World) (hT : Tabs3 w) :
    Calls Tryz.prog 28 #[.string wd, .string ⟨#[61]⟩] w fun e w' => e = .returned (.tuple #[.string nmb, .string tb, .bool true]) ∧ Below w.heap.size w w' := by
  obtain ⟨m, hm⟩ := hT.maxAt
  refine (Tryz.strings_Cut wd ⟨#[61]⟩ m w (by omega) hm).mono ?_
  rintro e w' ⟨rfl, n, rfl⟩
  refine ⟨?_, below_drewN (Below.refl _ _) n⟩
  rw [show (⟨#[61]⟩ : ByteArray).data.toList = [61] from rfl, h]

/-- what stands behind `i` words -/
def PRel (o : OpV) (wA : World) (i : Nat) (wr : World) : Prop :=
  Below wA.heap.size wA wr ∧ ∃ (k m : Nat) (kv : Value), k ≤ 9 ∧ m ≤ o.keep.length ∧ i = fLen o k + m ∧ (0 < m → k = 9) ∧ OpAt wr wA.heap.size (partCells o k kv) ∧ WordsAt (wA.heap.size + 1) kv ((o.keep.take m).map (·.data.toList)) wr

theorem words_off {B : Nat} {kv : Value} {ws : List (List UInt8)} {w : World} (h : WordsAt (B + 1) kv ws w) : kv.ownBlock ≠ some B ∧ ∀ g, kv.ownBlock = some g → B ≤ g := by
  rcases h.2 with ⟨rfl, _⟩ | ⟨g, cap, cur, rfl, hb, _⟩
  · exact ⟨by simp [Value.ownBlock], by simp [Value.ownBlock]⟩
  · refine ⟨fun e => ?_, fun g' e => ?_⟩
    · have : g = B := Option.some.inj e
      omega
    · have : g = g' := Option.some.inj e
      omega

theorem words_but {B p : Nat} {v : Value} {ws : List (List UInt8)} {w w' : World} (h : WordsAt B v ws w) (hp : v.ownBlock ≠ some p) (hb : But p w w') : WordsAt B v ws w' := by
  refine ⟨h.1, ?_⟩
  rcases h.2 with hn | ⟨g, cap, cur, hv, hbg, hg, rest⟩
  · exact .inl hn
  · refine .inr ⟨g, cap, cur, hv, hbg, ?_, rest⟩
    rw [hb.block g (Array.getElem?_eq_some_iff.1 hg).1 (fun e => hp (by rw [hv]; exact congrArg some e))]
    exact hg

theorem But2.below {p B : Nat} {r : Option Nat} {a b : World} (h : But2 p r a b) (hB : B ≤ p) (hB2 : B ≤ a.heap.size) (hr : ∀ g, r = some g → B ≤ g) : Below B a b :=
  ⟨h.os, h.tape, h.output, h.size, fun k hk => h.block k (by omega) (by omega) (fun e => by have := hr k e; omega)⟩

theorem parse_round (o : OpV) (ho : o.ok) (wA : World) (hT : Tabs3 wA) (i : Nat) (hi : i < (tailW o).length) (wr : World) (hR : PRel o wA i wr) :
    ∃ wd nmb tb : ByteArray, (tailW o)[i]? = some wd.data.toList ∧ (∀ W, Below wA.heap.size wA W → Calls Tryz.prog 28 #[.string wd, .string ⟨#[61]⟩] W fun e w' => e = .returned (.tuple #[.string nmb, .string tb, .bool true]) ∧ Below W.heap.size W w') ∧
      ∀ W, Below wr.heap.size wr W → Calls Tryz.prog 29 #[.pointer (some ⟨wA.heap.size, 0, none⟩), .string nmb, .string tb] W fun e w' => e = .returned (.tuple #[]) ∧ PRel o wA (i + 1) w' := by
  obtain ⟨hb, k, m, kv, hk, hm, rfl, hmk, hO, hW⟩ := hR
  have hsz := hb.size
  by_cases hF : fLen o k + m < fLen o 9
  · have hm0 : m = 0 := by
      rcases Nat.eq_zero_or_pos m with h | h
      · exact h
      · have := hmk h
        subst this
        omega
    subst hm0
    obtain ⟨j, h1, h2, h3, h4, h5⟩ := next_field o kv (fLen o k) (9 - k) k (by omega) rfl (by simpa [fLen] using hF)
    obtain ⟨x, hx⟩ : ∃ x, fieldKeys[j]? = some x := ⟨_, List.getElem?_eq_getElem (show j < fieldKeys.length from h2)⟩
    have hfn := fieldN_of hx
    have htl := fieldT_length o ho j
    have hnl := fieldN_length j
    refine ⟨⟨(fieldN j ++ 61 :: (fieldT o).getD j []).toArray⟩, x.2.2.2, ⟨((fieldT o).getD j []).toArray⟩, ?_, ?_, ?_⟩
    · show _ = some (fieldN j ++ 61 :: (fieldT o).getD j []).toArray.toList
      rw [Nat.add_zero, ← h3]
      exact tail_field o j h2 h4
    · intro W hW
      refine scr_cut_at _ _ _ ?_ ?_ W (hT.below hW)
      · show Lib.cut (fieldN j ++ 61 :: (fieldT o).getD j []).toArray.toList [61] = _
        rw [cut_field, hfn]
      · show (fieldN j ++ 61 :: (fieldT o).getD j []).toArray.size ≤ _
        rw [List.size_toArray, List.length_append, List.length_cons]
        omega
    · intro W hbW
      have hOW := hO.below hbW
      rw [h5] at hOW
      have hbA := hb.trans (hbW.mono hsz)
      refine (scr_take_field j x hx o ho h4 wA.heap.size _ W hOW (part_size o j kv) (fun W' hB => ((hT.below (hbA.trans (hB.below (Nat.le_refl _) hbA.size))).tabs2.tabs))).mono ?_
      rintro e w' ⟨rfl, hO', hB⟩
      refine ⟨rfl, hbA.trans (hB.below (Nat.le_refl _) hbA.size), j + 1, 0, kv, by omega, by omega, ?_, fun h => absurd h (by omega), ?_, words_but (hW.keep hbW) (words_off hW).1 hB⟩
      · have e1 : fieldW o j = [fieldN j ++ 61 :: (fieldT o).getD j []] := by unfold fieldW; rw [if_neg h4]
        rw [fLen_step, e1]
        show fLen o k + 0 + 1 = fLen o j + 1 + 0
        have : fLen o j = fLen o k := h3
        omega
      · rw [part_step o j h2 kv] at hO'
        exact hO'
  · have hle := fLen_mono o k (9 - k)
    rw [show k + (9 - k) = 9 by omega] at hle
    have htl := tail_length o
    have hmlt : m < o.keep.length ∧ fLen o k = fLen o 9 := by
      rcases Nat.eq_zero_or_pos m with h | h
      · omega
      · have := hmk h
        subst this
        omega
    obtain ⟨hmlt, hfl⟩ := hmlt
    have hrk : o.keep[m]? = some o.keep[m] := List.getElem?_eq_getElem hmlt
    have hrm : o.keep[m] ∈ o.keep := List.getElem_mem hmlt
    generalize o.keep[m] = s at *
    have hs := ho.keep s hrm
    have hql := quote_len s
    have hkn := ho.keepN
    rw [part_rest o kv (9 - k) k (by omega) hfl] at hO
    refine ⟨⟨(keepW s).toArray⟩, keepB, ⟨(quoteL s.data.toList).toArray⟩, ?_, ?_, ?_⟩
    · rw [hfl]
      exact tail_keep o m s hrk
    · intro W hW
      refine scr_cut_at _ _ _ ?_ ?_ W (hT.below hW)
      · exact cut_keep s
      · show (keepW s).toArray.size ≤ _
        rw [List.size_toArray]
        simp only [keepW, List.length_append, List.length_cons, List.length_nil]
        omega
    · intro W hbW
      have hOW := hO.below hbW
      have hbA := hb.trans (hbW.mono hsz)
      have hp : wA.heap.size < wr.heap.size := (Array.getElem?_eq_some_iff.1 hO).1
      have hsW := hbW.size
      refine (scr_take_keep s hs wA.heap.size _ kv _ (wA.heap.size + 1) W hOW rfl (hW.keep hbW) (by omega) (words_off hW).1 (by simp; omega) (fun W' hB => (hT.below (hbA.trans (hB.mono hbA.size))).tabs2.tabs)).mono ?_
      rintro e w' ⟨rfl, kv', hO', hW', hpl, hB⟩
      refine ⟨rfl, hbA.trans (hB.below (Nat.le_refl _) hbA.size (words_off hW).2), 9, m + 1, kv', Nat.le_refl _, by omega, by omega, fun _ => rfl, hO', ?_⟩
      rw [List.take_add_one, hrk, List.map_append]
      exact hW'

end Go.Proofs.YtkgkhcfonlhphaaGreatDoor
