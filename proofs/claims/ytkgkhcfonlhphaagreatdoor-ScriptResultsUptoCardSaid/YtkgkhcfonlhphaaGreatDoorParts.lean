/- Plain: a line's words, byte by byte; runes that are no ASCII are no matter. No condition. -/
import Derived.Test.YtkgkhcfonlhphaaGreatDoorQuo
namespace Go.Proofs.YtkgkhcfonlhphaaGreatDoor
open Uni

def parts : Bool → List UInt8 → List UInt8 → List (List UInt8)
  | _, cur, [] => [cur]
  | q, cur, c :: r => if c = 34 then parts (!q) (cur ++ [c]) r else if c = 32 ∧ q = false then cur :: parts q [] r else parts q (cur ++ [c]) r

theorem parts_high (q : Bool) : ∀ (h cur r : List UInt8), (∀ b ∈ h, 128 ≤ b.toNat) → parts q cur (h ++ r) = parts q (cur ++ h) r := by
  intro h
  induction h with
  | nil => intro cur r _; simp
  | cons b h ih =>
    intro cur r hb
    have h1 := hb b (by simp)
    rw [List.cons_append, parts, if_neg (by rintro rfl; simp at h1), if_neg (by rintro ⟨rfl, _⟩; simp at h1), ih _ _ (fun x hx => hb x (by simp [hx]))]
    simp

theorem enc_high (r : Int) (h : 128 ≤ r) : ∀ b ∈ Lib.encodeRune r, 128 ≤ b.toNat := by
  intro b hb
  unfold Lib.encodeRune Lib.encodeRuneZ at hb
  rw [if_neg (by omega)] at hb
  split at hb
  · simp at hb
    rcases hb with rfl | rfl <;> simp <;> omega
  · split at hb
    · simp at hb
      rcases hb with rfl | rfl | rfl <;> simp <;> omega
    · split at hb
      · simp at hb
        rcases hb with rfl | rfl | rfl | rfl <;> simp <;> omega
      · simp at hb
        rcases hb with rfl | rfl | rfl <;> decide

/-- a decoded rune that is no ASCII: its bytes are none -/
theorem dec_bytes_high (L : List UInt8) (hne : L ≠ []) (h : 128 ≤ (decL L).1) : ∀ b ∈ L.take (decL L).2, 128 ≤ b.toNat := by
  by_cases hb : (decL L).1 = 65533 ∧ (decL L).2 = 1
  · rw [hb.2]
    match L, hne with
    | a :: t, _ =>
      intro b hb
      simp at hb
      subst hb
      by_cases ha : b.toNat < 128
      · rw [dec_ascii b t ha] at h
        simp only at h
        omega
      · omega
  · rw [← dec_enc L hne hb]
    exact enc_high _ (by omega)

theorem dec_low (L : List UInt8) (hne : L ≠ []) (h : (decL L).1 < 128) : ∃ b r, L = b :: r ∧ (decL L).1 = b.toNat ∧ (decL L).2 = 1 := by
  match L, hne with
  | a :: t, _ =>
    by_cases ha : a.toNat < 128
    · exact ⟨a, t, rfl, by rw [dec_ascii a t ha], by rw [dec_ascii a t ha]⟩
    · have := dec_high a t (by omega)
      omega

theorem parts_quote (q : Bool) (cur L : List UInt8) (hne : L ≠ []) (h : (decL L).1 = 34) : (decL L).2 = 1 ∧ parts q cur L = parts (!q) (cur ++ L.take (decL L).2) (L.drop (decL L).2) := by
  obtain ⟨b, r, rfl, h1, h2⟩ := dec_low L hne (by omega)
  rw [h] at h1
  have hb : b = 34 := UInt8.toNat_inj.1 (by rw [← h1]; rfl)
  refine ⟨h2, ?_⟩
  rw [h2, hb]
  simp [parts]

theorem parts_space (cur L : List UInt8) (hne : L ≠ []) (h : (decL L).1 = 32) : (decL L).2 = 1 ∧ parts false cur L = cur :: parts false [] (L.drop (decL L).2) := by
  obtain ⟨b, r, rfl, h1, h2⟩ := dec_low L hne (by omega)
  rw [h] at h1
  have hb : b = 32 := UInt8.toNat_inj.1 (by rw [← h1]; rfl)
  refine ⟨h2, ?_⟩
  rw [h2, hb]
  simp [parts]

theorem parts_other (q : Bool) (cur L : List UInt8) (hne : L ≠ []) (h : (decL L).1 ≠ 34) (h' : (decL L).1 ≠ 32 ∨ q = true) : parts q cur L = parts q (cur ++ L.take (decL L).2) (L.drop (decL L).2) := by
  by_cases hl : (decL L).1 < 128
  · obtain ⟨b, r, rfl, h1, h2⟩ := dec_low L hne hl
    rw [h2]
    rw [h1] at h h'
    have e1 : b ≠ 34 := by rintro rfl; exact h rfl
    have e2 : ¬ (b = 32 ∧ q = false) := by
      rintro ⟨rfl, rfl⟩
      rcases h' with h' | h'
      · exact h' rfl
      · cases h'
    rw [parts, if_neg e1, if_neg e2]
    simp
  · have := dec_bytes_high L hne (by omega)
    conv => lhs; rw [← List.take_append_drop (decL L).2 L]
    exact parts_high q _ _ _ this

end Go.Proofs.YtkgkhcfonlhphaaGreatDoor
