/- Contracts of the reference's Number and number: a number's decimal numeral. No condition but that the name is short. -/
import Derived.Test.YtkgkhcfonlhphaaGreatDoorNum
namespace Go.Proofs.YtkgkhcfonlhphaaGreatDoor
open Go.RowKit

theorem dec_step (u : Nat) (h : ¬ u < 10) : Lib.decDigits u = Lib.decDigits (u / 10) ++ [UInt8.ofNat (48 + u % 10)] := by rw [Lib.decDigits, dif_neg h]
theorem nDigits_le (u : Nat) (h : u < 18446744073709551616) : Lib.nDigits u ≤ 20 := by
  by_cases h0 : u = 0
  · subst h0; rw [Lib.nDigits]; simp
  · have := Lib.numDigits_eq u (by omega) h
    split at this <;> omega

/-- what of a number's digits there is when the digits of u are still to come -/
def DecAt (N u : Nat) (t : List UInt8) : Prop := if u = 0 then t = Lib.decDigits N else Lib.decDigits u ++ t = Lib.decDigits N

theorem decAt_next {N u : Nat} {t : List UInt8} (h0 : u ≠ 0) (h : DecAt N u t) : DecAt N (u / 10) (UInt8.ofNat (48 + u % 10) :: t) := by
  unfold DecAt at *
  rw [if_neg h0] at h
  by_cases h1 : u < 10
  · rw [if_pos (by omega), ← h, Lib.decDigits_one h1, Nat.mod_eq_of_lt h1]
    rfl
  · rw [if_neg (by omega), ← h, dec_step u h1, List.append_assoc]
    rfl

theorem decAt_length {N u : Nat} {t : List UInt8} (hN : N < 18446744073709551616) (h : DecAt N u t) : t.length ≤ 20 := by
  unfold DecAt at h
  have h2 := nDigits_le N hN
  have h3 := Lib.decDigits_length N
  split at h
  · rw [h]; omega
  · have := congrArg List.length h
    rw [List.length_append] at this
    omega

theorem digit_eq (k : Nat) (h : k < 10) : (48 : UInt8) + UInt8.ofNat k = UInt8.ofNat (48 + k) := by
  have : ∀ k : Nat, k < 10 → (48 : UInt8) + UInt8.ofNat k = UInt8.ofNat (48 + k) := by decide
  exact this k h

theorem conv_one (W : World) (x : Int) (h0 : 0 ≤ x) (h1 : x < 256) : (convert 71 9 (.slice (some ⟨W.heap.size, 0, none⟩) 1 1)).run Tryz.prog (W.alloc (.cells #[.int .u8 x] 5)) =
    .ok (.string ⟨#[UInt8.ofNat x.toNat]⟩) (W.alloc (.cells #[.int .u8 x] 5)) := by
  have h := run_convert_bytes_back (P := Tryz.prog) (W.alloc (.cells #[.int .u8 x] 5)) 71 9 5 ⟨W.heap.size, 0, none⟩ 1 [UInt8.ofNat x.toNat] Tryz.underlying71 Tryz.underlying5 Tryz.underlying9 (fun j hj => by
    have : j = 0 := by simpa using hj
    subst this
    rw [Lib.add_plain, World.cell?_alloc_new]
    simp
    omega)
  exact h

set_option maxHeartbeats 1000000 in
set_option maxRecDepth 100000 in
theorem ref_Number_pos (N : Nat) (h0 : 1 ≤ N) (h1 : N ≤ 9223372036854775807) (w : World) :
    Calls Tryz.prog 20 #[.int .i64 N] w fun e w' => e = .returned (.string ⟨(Lib.itoa N).toArray⟩) ∧ Below w.heap.size w w' := by
  have hz : ((N : Int) == 0) = false := by simp; omega
  go_enter Tryz.func20, Tryz.ntmps20
  go_wp2_with fail
  go_loopw [3, 4] (fun s x wr => ∃ (u : Nat) (t : List UInt8), u ≤ N ∧ x = .int .i64 (u : Int) ∧ s = .string ⟨t.toArray⟩ ∧ DecAt N u t ∧ Below w.heap.size w wr) (fun _ x _ => (intOf x).toNat)
  case atStart => exact ⟨N, [], Nat.le_refl _, rfl, rfl, by unfold DecAt; rw [if_neg (by omega), List.append_nil], Below.refl _ _⟩
  case round =>
    obtain ⟨u, t, hu, rfl, rfl, hd, hb⟩ := hrel
    have hl := decAt_length (by omega) hd
    have hsz := hb.size
    by_cases hu0 : u = 0
    · have hn0 : ((u : Int) != 0) = false := by simp; omega
      have ht : t = Lib.decDigits N := by unfold DecAt at hd; rwa [if_pos hu0] at hd
      have HT := Lib.hid ht
      clear ht hd hu0
      go_wp2
      go_ret
      refine ⟨ret_str ?_, hb⟩
      rw [HT.out, Lib.itoa_nonneg]
    · have hn0 : ((u : Int) != 0) = true := by simp; omega
      have hnx := Lib.hid (decAt_next hu0 hd)
      have hm0 : (0 : Int) ≤ (u : Int) % 10 := by omega
      have hm1 : (u : Int) % 10 ≤ 9 := by omega
      have hw : IntKind.u8.wrap (48 + (u : Int) % 10) = 48 + (u : Int) % 10 := IntWalk.u8_in _ (by omega)
      have hcv := conv_one wr (48 + (u : Int) % 10) (by omega) (by omega)
      clear hd
      go_wp2
      refine ⟨⟨u / 10, (48 + UInt8.ofNat (u % 10)) :: t, by omega, by go_num, rfl, ?_, hb.alloc hsz _⟩, by simp [intOf]; omega⟩
      rw [digit_eq _ (by omega)]
      exact hnx.out

set_option maxHeartbeats 1000000 in
set_option maxRecDepth 100000 in
theorem ref_Number_neg (N : Nat) (h0 : 1 ≤ N) (h1 : N ≤ 9223372036854775808) (w : World) :
    Calls Tryz.prog 20 #[.int .i64 (-(N : Int))] w fun e w' => e = .returned (.string ⟨(Lib.itoa (-(N : Int))).toArray⟩) ∧ Below w.heap.size w w' := by
  have hz : ((-(N : Int)) == 0) = false := by simp; omega
  have hneg : -(N : Int) < 0 := by omega
  go_enter Tryz.func20, Tryz.ntmps20
  go_wp2_with fail
  go_loopw [3, 4] (fun s x wr => ∃ (u : Nat) (t : List UInt8), u ≤ N ∧ x = .int .i64 (-(u : Int)) ∧ s = .string ⟨t.toArray⟩ ∧ DecAt N u t ∧ Below w.heap.size w wr) (fun _ x _ => (-(intOf x)).toNat)
  case atStart => exact ⟨N, [], Nat.le_refl _, rfl, rfl, by unfold DecAt; rw [if_neg (by omega), List.append_nil], Below.refl _ _⟩
  case round =>
    obtain ⟨u, t, hu, rfl, rfl, hd, hb⟩ := hrel
    have hl := decAt_length (by omega) hd
    have hsz := hb.size
    by_cases hu0 : u = 0
    · have hn0 : ((-(u : Int)) != 0) = false := by simp; omega
      have ht : t = Lib.decDigits N := by unfold DecAt at hd; rwa [if_pos hu0] at hd
      have HT := Lib.hid ht
      clear ht hd hu0
      go_wp2
      go_ret
      refine ⟨ret_str ?_, hb⟩
      rw [HT.out, Lib.itoa_neg _ h0]
      rw [ByteArray.ext_iff]
      simp
    · have hn0 : ((-(u : Int)) != 0) = true := by simp; omega
      have hnx := Lib.hid (decAt_next hu0 hd)
      have hq : (-(u : Int)).tdiv 10 = -((u : Int) / 10) := by rw [Int.neg_tdiv, Int.tdiv_eq_ediv_of_nonneg (by omega)]
      clear hd
      by_cases h10 : u % 10 = 0
      · have hm : (-(u : Int)).tmod 10 = 0 := by rw [Int.neg_tmod, Int.tmod_eq_emod_of_nonneg (by omega)]; omega
        have H10 := Lib.hid h10
        clear h10
        have hcv := conv_one wr 48 (by omega) (by omega)
        go_wp2
        refine ⟨⟨u / 10, 48 :: t, by omega, by go_num, ?_, ?_, hb.alloc hsz _⟩, by simp [intOf]; omega⟩
        · rfl
        · have := hnx.out
          rw [H10.out] at this
          exact this
      · have hm : (-(u : Int)).tmod 10 = -((u : Int) % 10) := by rw [Int.neg_tmod, Int.tmod_eq_emod_of_nonneg (by omega)]
        have hm0 : (1 : Int) ≤ (u : Int) % 10 := by omega
        have hm1 : (u : Int) % 10 ≤ 9 := by omega
        have hw : IntKind.u8.wrap (48 + (u : Int) % 10) = 48 + (u : Int) % 10 := IntWalk.u8_in _ (by omega)
        have hcv := conv_one wr (48 + (u : Int) % 10) (by omega) (by omega)
        go_wp2
        refine ⟨⟨u / 10, (48 + UInt8.ofNat (u % 10)) :: t, by omega, by go_num, rfl, ?_, hb.alloc hsz _⟩, by simp [intOf]; omega⟩
        rw [digit_eq _ (by omega)]
        exact hnx.out

theorem ref_Number (n : Int) (h0 : -9223372036854775808 ≤ n) (h1 : n ≤ 9223372036854775807) (w : World) :
    Calls Tryz.prog 20 #[.int .i64 n] w fun e w' => e = .returned (.string ⟨(Lib.itoa n).toArray⟩) ∧ Below w.heap.size w w' := by
  by_cases hz : n = 0
  · subst hz
    go_enter Tryz.func20, Tryz.ntmps20
    go_wp2
    go_ret
    refine ⟨ret_str ?_, Below.refl _ _⟩
    have : Lib.itoa 0 = [48] := by
      rw [show (0 : Int) = ((0 : Nat) : Int) from rfl, Lib.itoa_nonneg, Lib.decDigits_one (by omega)]
      rfl
    rw [this]
  · by_cases hn : n < 0
    · have h := ref_Number_neg n.natAbs (by omega) (by omega) w
      rwa [show -((n.natAbs : Nat) : Int) = n from by omega] at h
    · have h := ref_Number_pos n.natAbs (by omega) (by omega) w
      rwa [show ((n.natAbs : Nat) : Int) = n from by omega] at h

/-- a field that is a number, as it is shown: nothing for 0 -/
def numL (name : List UInt8) (n : Int) : List UInt8 := if n = 0 then [] else 32 :: (name ++ 61 :: Lib.itoa n)

theorem itoa_length (n : Int) (h0 : -9223372036854775808 ≤ n) (h1 : n ≤ 9223372036854775807) : (Lib.itoa n).length ≤ 21 := by
  unfold Lib.itoa
  split
  · have h2 := nDigits_le n.natAbs (by omega)
    have h3 := Lib.decDigits_length n.natAbs
    simp only [List.length_cons]
    omega
  · have h2 := nDigits_le n.toNat (by omega)
    have h3 := Lib.decDigits_length n.toNat
    omega

end Go.Proofs.YtkgkhcfonlhphaaGreatDoor
