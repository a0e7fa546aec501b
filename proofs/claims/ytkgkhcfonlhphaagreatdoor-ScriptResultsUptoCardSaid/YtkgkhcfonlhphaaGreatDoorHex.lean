/- strconv.ParseUint at base 16 of two digits. -/
import Derived.Test.YtkgkhcfonlhphaaGreatDoorWords
namespace Go.Proofs.YtkgkhcfonlhphaaGreatDoor
open Go.RowKit

theorem hexD_small (x : Nat) (h : x < 10) : (hexD x).toNat = 48 + x := by
  unfold hexD
  rw [if_pos h]
  simp
  omega
theorem hexD_big (x : Nat) (h : 10 ≤ x) (h2 : x < 16) : (hexD x).toNat = 87 + x := by
  unfold hexD
  rw [if_neg (by omega)]
  simp
  omega

theorem or32 (d : Nat) (h : 10 ≤ d) (h2 : d < 16) : bits .or .u8 ((87 + d : Nat) : Int) 32 = ((87 + d : Nat) : Int) := by
  have h : ∀ n : Nat, n < 16 → 10 ≤ n → bits .or .u8 ((87 + n : Nat) : Int) 32 = ((87 + n : Nat) : Int) := by decide +kernel
  exact h d h2 (by omega)

theorem lower_hex (d : Nat) (h : 10 ≤ d) (h2 : d < 16) (w : World) : Calls Tryz.prog 77 #[.int .u8 ((87 + d : Nat) : Int)] w fun e w' => e = .returned (.int .u8 ((87 + d : Nat) : Int)) ∧ w = w' := by
  have ho := or32 d h h2
  generalize hm : ((87 + d : Nat) : Int) = m at *
  go_enter Tryz.func77, Tryz.ntmps77
  go_wp2
  go_ret
  exact ⟨rfl, rfl⟩

def val2 (x y k : Nat) : Nat := if k = 0 then 0 else if k = 1 then x else 16 * x + y
def dig2 (x y k : Nat) : Nat := if k = 0 then x else y
def chr (d : Nat) : Nat := if d < 10 then 48 + d else 87 + d
theorem hexD_chr (d : Nat) (h : d < 16) : (hexD d).toNat = chr d := by
  unfold chr
  split
  · exact hexD_small d (by assumption)
  · exact hexD_big d (by omega) h

set_option maxHeartbeats 1000000 in
set_option maxRecDepth 100000 in
theorem int_ParseUint (x y : Nat) (hx : x < 16) (hy : y < 16) (w : World) : Calls Tryz.prog 56 #[.string ⟨#[hexD x, hexD y]⟩, .int .i64 16, .int .i64 8] w fun e w' => e = .returned (.tuple #[.int .u64 (16 * x + y : Nat), .nilIface]) ∧ Below w.heap.size w w' := by
  generalize hs : (⟨#[hexD x, hexD y]⟩ : ByteArray) = s
  have hsz : s.size = 2 := by rw [← hs]; rfl
  have hl : s.toList.isEmpty = false := by
    rw [← decide_eq_emptyBytes]
    exact decide_eq_false (fun h => by rw [h] at hsz; cases hsz)
  have H := Lib.hid hs
  clear hs
  obtain ⟨w4, cap, hcv, b4, hs4, hc4⟩ := conv_bytes s 2 hsz w
  go_enter Tryz.func56, Tryz.ntmps56
  have hcell : ∀ k, k < 2 → w4.cell? ⟨w.heap.size, k, none⟩ = some (.int .u8 (chr (dig2 x y k) : Nat)) := by
    intro k hk
    rw [hc4 k hk, ← H.out]
    have : k = 0 ∨ k = 1 := by omega
    rcases this with rfl | rfl
    · show some (Value.int .u8 (hexD x).toNat) = _
      rw [hexD_chr x hx]
      rfl
    · show some (Value.int .u8 (hexD y).toNat) = _
      rw [hexD_chr y hy]
      rfl
  clear hc4
  go_wp2_with fail
  go_loopw [12, 13, 101] (fun q n i wr => ∃ k : Nat, k ≤ 2 ∧ q = .bool false ∧ i = .int .i64 (k : Int) ∧ n = .int .u64 ((val2 x y k : Nat) : Int) ∧ Below w4.heap.size w4 wr) (fun _ _ i _ => 2 - (intOf i).toNat)
  case atStart => exact ⟨0, by omega, rfl, rfl, rfl, Below.refl _ _⟩
  case round =>
    obtain ⟨k, hk, rfl, rfl, rfl, hb⟩ := hrel
    by_cases hlt : k < 2
    · have hcr : wr.cell? ⟨w.heap.size, k, none⟩ = some (.int .u8 (chr (dig2 x y k) : Nat)) := by
        rw [hb.cell (p := ⟨w.heap.size, k, none⟩) (by simp; omega)]
        exact hcell k hlt
      have hd : dig2 x y k < 16 := by unfold dig2; split <;> omega
      have hv : val2 x y k < 16 := by unfold val2; split <;> (try split) <;> omega
      have hv2 : val2 x y (k + 1) = 16 * val2 x y k + dig2 x y k := by
        have : k = 0 ∨ k = 1 := by omega
        rcases this with rfl | rfl <;> simp [val2, dig2]
      generalize dig2 x y k = d at *
      generalize val2 x y k = v at *
      have HV := Lib.hid hv2
      clear hv2 hcell
      have hcut : decide ((1152921504606846976 : Int) ≤ (v : Int)) = false := decide_eq_false (by omega)
      have hnext : Value.int .u64 ((v : Int) * 16 + (d : Int)) = .int .u64 ((val2 x y (k + 1) : Nat) : Int) := by
        rw [HV.out]
        congr 1
        omega
      have HN := Lib.hid hnext
      clear hnext
      by_cases h10 : d < 10
      · have e : chr d = 48 + d := if_pos h10
        rw [e] at hcr
        clear e
        have hds : (48 + (d : Int) - 48) = d := by omega
        go_upto_if 137 with (fail)
        go_upto_if 141 with (fail)
        go_wp2_with fail
        exact ⟨⟨k + 1, by omega, rfl, by go_num, HN.out, hb⟩, by simp [intOf]; omega⟩
      · have e : chr d = 87 + d := if_neg h10
        rw [e] at hcr
        clear e
        have hlo := fun W => lower_hex d (by omega) hd W
        have hm97 : ((87 + d : Nat) : Int) - 97 + 10 = d := by omega
        have hm0 : IntKind.u8.wrap (((87 + d : Nat) : Int) - 97) = ((87 + d : Nat) : Int) - 97 := IntWalk.u8_in _ (by omega)
        have hr1 : 97 ≤ 87 + d := by omega
        have hr2 : 87 + d ≤ 102 := by omega
        generalize hm : 87 + d = m at *
        have HM := Lib.hid hm
        clear hm
        go_upto_if 137 with (go_at_call 77; refine (hlo _).mono ?_; rintro e w' ⟨rfl, rfl⟩)
        go_upto_if 141 with (fail)
        go_wp2_with fail
        exact ⟨⟨k + 1, by omega, rfl, by go_num, HN.out, hb⟩, by simp [intOf]; omega⟩
    · have hk2 : k = 2 := by omega
      have hv : ((val2 x y k : Nat) : Int) = ((16 * x + y : Nat) : Int) := by rw [hk2]; rfl
      obtain ⟨r, hr⟩ : ∃ r : Int, ((val2 x y k : Nat) : Int) = r := ⟨_, rfl⟩
      have HR := Lib.hid (hv.symm.trans hr)
      rw [hr]
      clear hv hk2 hr
      go_wp2_with fail
      refine bodyPost_ret (results_tmp2 rfl _ _ _) rfl ?_
      exact ⟨by rw [HR.out]; rfl, b4.trans (hb.mono (by omega))⟩

theorem str_ParseUint (x y : Nat) (hx : x < 16) (hy : y < 16) (w : World) : Calls Tryz.prog 30 #[.string ⟨#[hexD x, hexD y]⟩, .int .i64 16, .int .i64 8] w fun e w' => e = .returned (.tuple #[.int .u64 (16 * x + y : Nat), .nilIface]) ∧ Below w.heap.size w w' := by
  have h := int_ParseUint x y hx hy w
  generalize ((16 * x + y : Nat) : Int) = r at *
  generalize (⟨#[hexD x, hexD y]⟩ : ByteArray) = s at *
  have H := Lib.hid h
  clear h
  go_enter Tryz.func30, Tryz.ntmps30
  go_wp2_with (go_at_call 56; refine H.out.mono ?_)
  rintro e w' ⟨rfl, hb⟩
  go_wp2_with fail
  refine bodyPost_ret (results_tmp2 rfl _ _ _) rfl ?_
  exact ⟨rfl, hb⟩

end Go.Proofs.YtkgkhcfonlhphaaGreatDoor
