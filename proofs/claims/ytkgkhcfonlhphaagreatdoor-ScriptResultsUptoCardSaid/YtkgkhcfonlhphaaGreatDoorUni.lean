/- Plain facts on UTF-8: decoding a list of bytes, and that a rune that was decoded is encoded as its bytes. No condition. -/
import Derived.Lib.DecodeN
import Derived.Lib.RuneBytes
import Derived.Laws.RangeAny
namespace Go.Proofs.YtkgkhcfonlhphaaGreatDoor.Uni

def decL (l : List UInt8) : Nat × Nat := Lib.decodeN l.length (l.getD 0 0).toNat (l.getD 1 0).toNat (l.getD 2 0).toNat (l.getD 3 0).toNat

theorem get_bang (s : ByteArray) (i : Nat) : s.get! i = s.data.toList.getD i 0 := by
  obtain ⟨⟨l⟩⟩ := s
  simp [ByteArray.get!, List.getD_eq_getElem?_getD]
  cases h : l[i]? <;> simp <;> rfl

theorem decode_drop (s : ByteArray) (i : Nat) : Utf8.decode s i = decL (s.data.toList.drop i) := by
  rw [Lib.decode_at]
  unfold decL
  have hl : (s.data.toList.drop i).length = s.size - i := by simp
  have hg : ∀ k, (s.data.toList.drop i).getD k 0 = s.get! (i + k) := by
    intro k
    rw [get_bang]
    simp [List.getD_eq_getElem?_getD, List.getElem?_drop]
  rw [hl, hg, hg, hg, hg]
  rfl

theorem decN_pos (n b0 b1 b2 b3 : Nat) : 1 ≤ (Lib.decodeN n b0 b1 b2 b3).2 := by
  unfold Lib.decodeN
  repeat' split
  all_goals simp

theorem dec_pos (l : List UInt8) : 1 ≤ (decL l).2 := decN_pos _ _ _ _ _

theorem decN_le (n b0 b1 b2 b3 : Nat) (h : 1 ≤ n) : (Lib.decodeN n b0 b1 b2 b3).2 ≤ n := by
  unfold Lib.decodeN
  repeat' split
  all_goals simp only
  all_goals omega

theorem dec_le (l : List UInt8) (h : l ≠ []) : (decL l).2 ≤ l.length := by
  have : 0 < l.length := List.length_pos_iff.2 h
  exact decN_le _ _ _ _ _ this

theorem dec_ascii (b : UInt8) (l : List UInt8) (h : b.toNat < 128) : decL (b :: l) = (b.toNat, 1) := by
  unfold decL Lib.decodeN
  simp [h]

theorem dec_high (b : UInt8) (l : List UInt8) (h : 128 ≤ b.toNat) : 128 ≤ (decL (b :: l)).1 := by
  unfold decL Lib.decodeN
  have hb : ¬ b.toNat < 128 := by omega
  simp only [List.getD_cons_zero, hb, if_false]
  repeat' split
  all_goals simp only
  all_goals omega

def lenR (c : Int) : Nat := if c < 128 then 1 else if c < 2048 then 2 else if c < 65536 then 3 else 4

/-- the decoded rune's length is the number of its bytes, but for a byte that begins none -/
theorem dec_len (l : List UInt8) (h : ¬ ((decL l).1 = 65533 ∧ (decL l).2 = 1)) : lenR ((decL l).1 : Int) = (decL l).2 := by
  have h0 := (l.getD 0 0).toNat_lt
  have h1 := (l.getD 1 0).toNat_lt
  have h2 := (l.getD 2 0).toNat_lt
  have h3 := (l.getD 3 0).toNat_lt
  revert h
  unfold decL Lib.decodeN lenR
  generalize (l.getD 0 0).toNat = b0 at *
  generalize (l.getD 1 0).toNat = b1 at *
  generalize (l.getD 2 0).toNat = b2 at *
  generalize (l.getD 3 0).toNat = b3 at *
  intro h
  repeat' split
  all_goals simp_all
  all_goals omega

theorem toUInt8_of (x : UInt8) (n : Int) (h : n = (x.toNat : Int)) : n.toNat.toUInt8 = x := by
  subst h; simp

theorem dec_enc (l : List UInt8) (hl : l ≠ []) (h : ¬ ((decL l).1 = 65533 ∧ (decL l).2 = 1)) : Lib.encodeRune ((decL l).1 : Int) = l.take (decL l).2 := by
  match l, hl with
  | a0 :: t, _ =>
    have h0 := a0.toNat_lt
    by_cases ha : a0.toNat < 128
    · rw [dec_ascii a0 t ha]
      simp only [Lib.encodeRune, Lib.encodeRuneZ, List.take_succ_cons, List.take_zero]
      rw [if_pos (by omega)]
      simp
    · revert h
      unfold decL Lib.decodeN
      simp only [List.getD_cons_zero]
      rw [if_neg ha]
      split
      · rename_i g
        obtain ⟨g0, g1, g2⟩ := g
        match t, g1 with
        | a1 :: t, _ =>
          have h1 := a1.toNat_lt
          simp only [List.getD_cons_succ, List.getD_cons_zero] at *
          split
          · intro _
            simp only [Lib.encodeRune, List.take_succ_cons, List.take_zero]
            rw [Lib.encodeRuneZ_two (by omega) (by omega)]
            simp only [List.map_cons, List.map_nil]
            rw [toUInt8_of a0 _ (by omega), toUInt8_of a1 _ (by omega)]
          · intro h; exact absurd ⟨rfl, rfl⟩ h
      · split
        · rename_i g
          obtain ⟨g0, ⟨g1, g1'⟩, ⟨g2, g2'⟩⟩ := g
          match t, g2 with
          | a1 :: a2 :: t, _ =>
            have h1 := a1.toNat_lt
            have h2 := a2.toNat_lt
            simp only [List.getD_cons_succ, List.getD_cons_zero] at *
            split
            · intro _
              simp only [Lib.encodeRune, List.take_succ_cons, List.take_zero]
              rw [Lib.encodeRuneZ_three (by omega)]
              simp only [List.map_cons, List.map_nil]
              rw [toUInt8_of a0 _ (by omega), toUInt8_of a1 _ (by omega), toUInt8_of a2 _ (by omega)]
            · intro h; exact absurd ⟨rfl, rfl⟩ h
          | [a1], g2 => simp at g2
          | [], g2 => simp at g2
        · split
          · rename_i g
            obtain ⟨g0, ⟨g1, g1'⟩, ⟨g2, g2'⟩, ⟨g3, g3'⟩⟩ := g
            match t, g3 with
            | a1 :: a2 :: a3 :: t, _ =>
              have h1 := a1.toNat_lt
              have h2 := a2.toNat_lt
              have h3 := a3.toNat_lt
              simp only [List.getD_cons_succ, List.getD_cons_zero] at *
              split
              · intro _
                simp only [Lib.encodeRune, List.take_succ_cons, List.take_zero]
                rw [Lib.encodeRuneZ_four (by omega) (by omega)]
                simp only [List.map_cons, List.map_nil]
                rw [toUInt8_of a0 _ (by omega), toUInt8_of a1 _ (by omega), toUInt8_of a2 _ (by omega), toUInt8_of a3 _ (by omega)]
              · intro h; exact absurd ⟨rfl, rfl⟩ h
            | [a1, a2], g3 => simp at g3
            | [a1], g3 => simp at g3
            | [], g3 => simp at g3
          · intro h; exact absurd ⟨rfl, rfl⟩ h

/-- RuneError stands for a byte that begins no rune just if its three bytes do not stand there -/
theorem dec_bad (l : List UInt8) (h : (decL l).1 = 65533) : (decL l).2 = 1 ↔ l.take 3 ≠ [239, 191, 189] := by
  constructor
  · intro h1 h3
    match l, h3 with
    | a0 :: a1 :: a2 :: t, h3 =>
      simp only [List.take_succ_cons, List.take_zero, List.cons.injEq, and_true] at h3
      obtain ⟨rfl, rfl, rfl⟩ := h3
      revert h1
      unfold decL Lib.decodeN
      simp
  · intro h3
    apply Classical.byContradiction
    intro hn
    have hl : l ≠ [] := by
      rintro rfl
      revert h
      decide
    have he := dec_enc l hl (fun x => hn x.2)
    have hlen := dec_len l (fun x => hn x.2)
    rw [h] at he hlen
    have : (decL l).2 = 3 := by rw [← hlen]; decide
    rw [this] at he
    exact h3 (by rw [← he]; decide)

end Go.Proofs.YtkgkhcfonlhphaaGreatDoor.Uni
