/- Plain: a number's text and back; its bytes are digits. No condition. -/
import Derived.Lib.AtoiAll
import Derived.Lib.ItoaNum
namespace Go.Proofs.YtkgkhcfonlhphaaGreatDoor

def isDec (b : UInt8) : Prop := 48 ≤ b.toNat ∧ b.toNat ≤ 57

theorem ofNat_dec (d : Nat) (h : d < 10) : (UInt8.ofNat (48 + d)).toNat = 48 + d := by
  simp
  omega

theorem dec_bytes : ∀ (u : Nat), ∀ b ∈ Lib.decDigits u, isDec b := by
  intro u
  induction u using Nat.strongRecOn with
  | ind u ih =>
    intro b hb
    rw [Lib.decDigits] at hb
    split at hb
    · rw [List.mem_singleton.1 hb]
      unfold isDec
      rw [ofNat_dec u (by omega)]
      omega
    · rcases List.mem_append.1 hb with h | h
      · exact ih (u / 10) (by omega) b h
      · rw [List.mem_singleton.1 h]
        unfold isDec
        rw [ofNat_dec (u % 10) (by omega)]
        omega

theorem dec_ne (u : Nat) : Lib.decDigits u ≠ [] := by
  rw [Lib.decDigits]
  split <;> simp

theorem parse_snoc : ∀ (l : List UInt8) (acc m : Nat) (b : UInt8), isDec b → Lib.parseUint10 acc l = .ok m → m * 10 + (b.toNat - 48) < 18446744073709551616 → Lib.parseUint10 acc (l ++ [b]) = .ok (m * 10 + (b.toNat - 48)) := by
  intro l
  induction l with
  | nil =>
    intro acc m b hb h hm
    simp only [Lib.parseUint10] at h
    injection h with h
    subst h
    unfold isDec at hb
    simp only [List.nil_append, Lib.parseUint10]
    rw [if_pos (by omega), if_neg (by omega), if_neg (by omega)]
  | cons c l ih =>
    intro acc m b hb h hm
    simp only [Lib.parseUint10, List.cons_append] at h ⊢
    split at h
    · rename_i h1
      rw [if_pos h1]
      split at h
      · cases h
      · rename_i h2
        rw [if_neg h2]
        split at h
        · cases h
        · rename_i h3
          rw [if_neg h3]
          exact ih _ _ _ hb h hm
    · cases h

theorem parse_dec : ∀ (u : Nat), u < 18446744073709551616 → Lib.parseUint10 0 (Lib.decDigits u) = .ok u := by
  intro u
  induction u using Nat.strongRecOn with
  | ind u ih =>
    intro hu
    by_cases h : u < 10
    · have := parse_snoc [] 0 0 (UInt8.ofNat (48 + u)) (by unfold isDec; rw [ofNat_dec u h]; omega) rfl (by rw [ofNat_dec u h]; omega)
      rw [Lib.decDigits, dif_pos h]
      rw [ofNat_dec u h] at this
      simpa using this
    · have h1 := ih (u / 10) (by omega) (by omega)
      have := parse_snoc _ 0 _ (UInt8.ofNat (48 + u % 10)) (by unfold isDec; rw [ofNat_dec _ (by omega)]; omega) h1 (by rw [ofNat_dec _ (by omega)]; omega)
      rw [Lib.decDigits, dif_neg h, this, ofNat_dec _ (by omega)]
      congr 1
      omega

theorem atoi_itoa (n : Int) (h0 : -9223372036854775808 ≤ n) (h1 : n < 9223372036854775808) : Lib.atoiAll (Lib.itoa n) = .ok n := by
  unfold Lib.itoa
  split
  · unfold Lib.atoiAll
    simp only
    rw [show (45 : UInt8).toNat = 45 from rfl, if_pos (Or.inr rfl)]
    unfold Lib.parseMag
    rw [if_neg (dec_ne _), parse_dec n.natAbs (by omega)]
    simp only [not_true, false_and, if_false, true_and, if_true]
    rw [if_neg (show ¬ 9223372036854775808 < n.natAbs by omega)]
    congr 1
    omega
  · obtain ⟨c, r, hc⟩ : ∃ c r, Lib.decDigits n.toNat = c :: r := by
      cases h : Lib.decDigits n.toNat with
      | nil => exact absurd h (dec_ne _)
      | cons c r => exact ⟨c, r, rfl⟩
    have hd := dec_bytes n.toNat c (by rw [hc]; simp)
    have hp := parse_dec n.toNat (by omega)
    unfold isDec at hd
    unfold Lib.atoiAll
    rw [hc]
    simp only
    rw [if_neg (by omega), ← hc]
    unfold Lib.parseMag
    rw [if_neg (dec_ne _), hp]
    simp only
    rw [if_neg (by omega), if_neg (by omega), if_neg (by omega)]
    congr 1
    omega

theorem itoa_bytes (n : Int) : ∀ b ∈ Lib.itoa n, b = 45 ∨ isDec b := by
  unfold Lib.itoa
  split
  · intro b hb
    rcases List.mem_cons.1 hb with h | h
    · exact .inl h
    · exact .inr (dec_bytes _ b h)
  · intro b hb
    exact .inr (dec_bytes _ b hb)

end Go.Proofs.YtkgkhcfonlhphaaGreatDoor
