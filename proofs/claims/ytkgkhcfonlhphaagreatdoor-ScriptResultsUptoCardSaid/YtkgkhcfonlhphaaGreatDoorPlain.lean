/- Contracts: is a rune plain (script.plain, and the reference's), the reference's length and digit. Condition: the rune is a valid one. -/
import Derived.Test.YtkgkhcfonlhphaaGreatDoorShelf
import Derived.Test.YtkgkhcfonlhphaaGreatDoorUni
import Derived.Test.YtkgkhcfonlhphaaGreatDoorSmall
import Derived.WalkKit
import Derived.WalkSpells
import Derived.WalkLawsBesides
import Derived.Lib.Hide
import Derived.Deep.QuietTactic
import Derived.BigQuiet
namespace Go.Proofs.YtkgkhcfonlhphaaGreatDoor
open Go.RowKit

theorem enc_last (r : Int) (h0 : 128 ≤ r) (hv : Lib.validRune r = true) : ∃ b : UInt8, 128 ≤ b.toNat ∧ ((∃ x, Utf8.encode r = ⟨#[x, b]⟩) ∨ (∃ x y, Utf8.encode r = ⟨#[x, y, b]⟩) ∨ (∃ x y z, Utf8.encode r = ⟨#[x, y, z, b]⟩)) := by
  have hv' : Utf8.valid r = true := by
    simp [Lib.validRune] at hv
    simp [Utf8.valid]
    omega
  unfold Utf8.encode
  simp only [hv', if_true]
  have h1 : ¬ r.toNat < 128 := by omega
  have hb : ∀ n, 128 ≤ (UInt8.ofNat (128 + n % 64)).toNat := fun n => by simp; omega
  simp only [h1, if_false]
  split
  · exact ⟨_, hb _, .inl ⟨_, rfl⟩⟩
  · split
    · exact ⟨_, hb _, .inr (.inl ⟨_, _, rfl⟩)⟩
    · exact ⟨_, hb _, .inr (.inr ⟨_, _, _, rfl⟩)⟩

def cutset : ByteArray := ⟨#[45, 95, 46, 47, 32]⟩

theorem index_none {l : List UInt8} {b : UInt8} (hb : 128 ≤ b.toNat) (hl : ∀ x ∈ l, x.toNat < 128 := by decide) : Lib.indexByte l b = -1 := by
  induction l with
  | nil => rfl
  | cons a l ih =>
    have ha := hl a (by simp)
    have h1 : ¬ a = b := by rintro rfl; omega
    have h2 := ih (fun x hx => hl x (by simp [hx]))
    simp [Lib.indexByte, h1, h2]

set_option maxHeartbeats 1000000 in
set_option maxRecDepth 100000 in
theorem indexRune_high (r : Int) (w : World) (h0 : 128 ≤ r) (h1 : r ≤ 1114111) (hv : Lib.validRune r = true) (hne : (r == 65533) = false) :
    Calls Tryz.prog 84 #[.string ⟨#[45, 95, 46, 47, 32]⟩, .int .i32 r] w fun e w' => e = .returned (.int .i64 (-1)) ∧ Below w.heap.size w w' := by
  obtain ⟨b, hb, he⟩ := enc_last r h0 hv
  have ht := b.toNat_lt
  rcases he with ⟨x, he⟩ | ⟨x, y, he⟩ | ⟨x, y, z, he⟩
  · have e1 : (((⟨#[45, 95, 46, 47, 32]⟩ : ByteArray)[1].toNat : Int) != ((⟨#[x, b]⟩ : ByteArray)[1]'(by simp [ByteArray.size])).toNat) = true := by
      show ((95 : Int) != (b.toNat : Int)) = true
      simp; omega
    have e2 : Lib.indexByte [46, 47, 32] ((⟨#[x, b]⟩ : ByteArray)[1]'(by simp [ByteArray.size])) = -1 := index_none hb
    go_enter Tryz.func84, Tryz.ntmps84
    go_wp2_with (go_at_call 102; refine (Tryz.utf8_ValidRune _ _).mono ?_; rintro e w' ⟨rfl, rfl⟩)
    go_step3
    go_wp2_with fail
    refine wp_loop_rounds 1 ?_
    rw [rounds_succ]
    go_wp2_with fail
    go_step3
    go_wp2_with fail
    go_quiet (fail)
    go_wp2_with fail
    go_quiet ((go_at_call 101; exact quiet_add_same (Tryz.strings_IndexByte _ _ _)))
    go_wp2
    rw [Exit.noGoto_ret]
    go_wp2
    rw [Exit.noGoto_ret]
    go_wp2
    go_ret
    exact ⟨rfl, below_drewN (Below.refl _ _) _⟩
  · have e1 : (((⟨#[45, 95, 46, 47, 32]⟩ : ByteArray)[2].toNat : Int) != ((⟨#[x, y, b]⟩ : ByteArray)[2]'(by simp [ByteArray.size])).toNat) = true := by
      show ((46 : Int) != (b.toNat : Int)) = true
      simp; omega
    have e2 : Lib.indexByte [47, 32] ((⟨#[x, y, b]⟩ : ByteArray)[2]'(by simp [ByteArray.size])) = -1 := index_none hb
    go_enter Tryz.func84, Tryz.ntmps84
    go_wp2_with (go_at_call 102; refine (Tryz.utf8_ValidRune _ _).mono ?_; rintro e w' ⟨rfl, rfl⟩)
    go_step3
    go_wp2_with fail
    refine wp_loop_rounds 1 ?_
    rw [rounds_succ]
    go_wp2_with fail
    go_step3
    go_wp2_with fail
    go_quiet (fail)
    go_wp2_with fail
    go_quiet ((go_at_call 101; exact quiet_add_same (Tryz.strings_IndexByte _ _ _)))
    go_wp2
    rw [Exit.noGoto_ret]
    go_wp2
    rw [Exit.noGoto_ret]
    go_wp2
    go_ret
    exact ⟨rfl, below_drewN (Below.refl _ _) _⟩
  · have e1 : (((⟨#[45, 95, 46, 47, 32]⟩ : ByteArray)[3].toNat : Int) != ((⟨#[x, y, z, b]⟩ : ByteArray)[3]'(by simp [ByteArray.size])).toNat) = true := by
      show ((47 : Int) != (b.toNat : Int)) = true
      simp; omega
    have e2 : Lib.indexByte [32] ((⟨#[x, y, z, b]⟩ : ByteArray)[3]'(by simp [ByteArray.size])) = -1 := index_none hb
    go_enter Tryz.func84, Tryz.ntmps84
    go_wp2_with (go_at_call 102; refine (Tryz.utf8_ValidRune _ _).mono ?_; rintro e w' ⟨rfl, rfl⟩)
    go_step3
    go_wp2_with fail
    refine wp_loop_rounds 1 ?_
    rw [rounds_succ]
    go_wp2_with fail
    go_step3
    go_wp2_with fail
    go_quiet (fail)
    go_wp2_with fail
    go_quiet ((go_at_call 101; exact quiet_add_same (Tryz.strings_IndexByte _ _ _)))
    go_wp2
    rw [Exit.noGoto_ret]
    go_wp2
    rw [Exit.noGoto_ret]
    go_wp2
    go_ret
    exact ⟨rfl, below_drewN (Below.refl _ _) _⟩

set_option maxHeartbeats 1000000 in
set_option maxRecDepth 100000 in
theorem indexRune_bad (w : World) :
    Calls Tryz.prog 84 #[.string ⟨#[45, 95, 46, 47, 32]⟩, .int .i32 65533] w fun e w' => e = .returned (.int .i64 (-1)) ∧ Below w.heap.size w w' := by
  go_enter Tryz.func84, Tryz.ntmps84
  go_wp2_with fail
  go_loopw [] (fun wr => ∃ pos : Nat, pos ≤ 5 ∧ wr = w.iter ⟨#[45, 95, 46, 47, 32]⟩ pos) (fun wr => 5 - wr.iterPos w.heap.size)
  case atStart => exact ⟨0, by omega, rfl⟩
  case round =>
    obtain ⟨pos, hp, rfl⟩ := hrel
    by_cases hlt : pos < 5
    · have hd : (Utf8.decode ⟨#[45, 95, 46, 47, 32]⟩ pos).2 = 1 ∧ ((Utf8.decode ⟨#[45, 95, 46, 47, 32]⟩ pos).1 : Int) < 128 := by
        have : pos = 0 ∨ pos = 1 ∨ pos = 2 ∨ pos = 3 ∨ pos = 4 := by omega
        rcases this with rfl | rfl | rfl | rfl | rfl <;> decide
      have hnx : ∀ ty, (Instr.next (.pointer (some ⟨w.heap.size, 0, none⟩)) true ty).run Tryz.prog (w.iter ⟨#[45, 95, 46, 47, 32]⟩ pos) = _ := fun ty => run_next_any w ⟨#[45, 95, 46, 47, 32]⟩ pos ty hlt
      generalize Utf8.decode ⟨#[45, 95, 46, 47, 32]⟩ pos = d at *
      obtain ⟨c, n⟩ := d
      obtain ⟨h1, h2⟩ := hd
      simp only at h1 h2 hnx
      subst h1
      have h3 : ((c : Int) == 65533) = false := by simp; omega
      go_wp2
      go_roundw
      case rel => exact ⟨pos + 1, by omega, rfl⟩
      case measure => simp; omega
    · obtain rfl : pos = 5 := by omega
      have hnx : ∀ ty, (Instr.next (.pointer (some ⟨w.heap.size, 0, none⟩)) true ty).run Tryz.prog (w.iter ⟨#[45, 95, 46, 47, 32]⟩ 5) = _ := fun ty => run_next_end w ⟨#[45, 95, 46, 47, 32]⟩ 5 ty (by decide)
      go_wp2
      go_ret
      exact ⟨rfl, below_iter (Below.refl _ _) (Nat.le_refl _) _ _⟩

def plainB (c : Int) : Bool :=
  decide (97 ≤ c ∧ c ≤ 122) || decide (65 ≤ c ∧ c ≤ 90) || decide (48 ≤ c ∧ c ≤ 57) || decide (c = 45) || decide (c = 95) || decide (c = 46) || decide (c = 47) || decide (c = 32) || decide (160 ≤ c)

def inSet (c : Int) : Bool := decide (c = 45) || decide (c = 95) || decide (c = 46) || decide (c = 47) || decide (c = 32)

theorem containsRune (c : Int) (w : World) (h0 : 0 ≤ c) (h1 : c ≤ 1114111) (hv : Lib.validRune c = true) :
    Calls Tryz.prog 60 #[.string ⟨#[45, 95, 46, 47, 32]⟩, .int .i32 c] w fun e w' => e = .returned (.bool (inSet c)) ∧ Below w.heap.size w w' := by
  by_cases h : c < 128
  · refine (Tryz.strings_ContainsRune_ascii ⟨#[45, 95, 46, 47, 32]⟩ c w h0 h).mono ?_
    rintro e w' ⟨rfl, rfl⟩
    refine ⟨ret_bool ?_, Below.refl _ _⟩
    obtain ⟨n, rfl⟩ := Int.eq_ofNat_of_zero_le h0
    have : ∀ n : Nat, n < 128 → decide (0 ≤ Lib.indexByte (ByteArray.mk #[45, 95, 46, 47, 32]).data.toList n.toUInt8) = inSet (n : Int) := by decide +kernel
    exact this n (by omega)
  · have hf : inSet c = false := by simp [inSet]; omega
    rw [hf]
    by_cases hb : c = 65533
    · subst hb
      go_enter Tryz.func60, Tryz.ntmps60
      go_wp2_with (go_at_call 84; refine (indexRune_bad _).mono ?_; rintro e w1 ⟨rfl, hb1⟩)
      go_ret
      exact ⟨rfl, hb1⟩
    · have hne : (c == 65533) = false := by simpa using hb
      go_enter Tryz.func60, Tryz.ntmps60
      go_wp2_with (go_at_call 84; refine (indexRune_high c _ (by omega) h1 hv hne).mono ?_; rintro e w1 ⟨rfl, hb1⟩)
      go_ret
      exact ⟨rfl, hb1⟩

theorem scr_plain (c : Int) (w : World) (h0 : 0 ≤ c) (h1 : c ≤ 1114111) (hv : Lib.validRune c = true) :
    Calls Tryz.prog 33 #[.int .i32 c] w fun e w' => e = .returned (.bool (plainB c)) ∧ Below w.heap.size w w' := by
  go_enter Tryz.func33, Tryz.ntmps33
  go_wp2_with (go_at_call 60; refine (containsRune c _ h0 h1 hv).mono ?_; rintro e w1 ⟨rfl, hb1⟩)
  all_goals go_ret
  all_goals refine ⟨ret_bool (by rw [Bool.eq_iff_iff]; simp only [plainB, inSet, Bool.or_eq_true, decide_eq_true_eq] at *; first | omega | (simp; omega)), ?_⟩
  all_goals first | exact Below.refl _ _ | assumption

theorem ref_length (c : Int) (w : World) : Calls Tryz.prog 40 #[.int .i32 c] w fun e w' => e = .returned (.int .i64 (Uni.lenR c)) ∧ w = w' := by
  go_enter Tryz.func40, Tryz.ntmps40
  go_wp2
  all_goals go_ret
  all_goals exact ⟨ret_int (by unfold Uni.lenR; (repeat' split) <;> omega), rfl⟩

theorem ref_plain (c : Int) (w : World) : Calls Tryz.prog 41 #[.int .i32 c] w fun e w' => e = .returned (.bool (plainB c)) ∧ w = w' := by
  go_enter Tryz.func41, Tryz.ntmps41
  go_wp2
  all_goals go_ret
  all_goals exact ⟨ret_bool (by rw [Bool.eq_iff_iff]; simp [plainB]; try omega), rfl⟩

def hexD (n : Nat) : UInt8 := if n < 10 then (48 + n).toUInt8 else (87 + n).toUInt8

theorem ref_digit (n : Int) (w : World) (h0 : 0 ≤ n) (h1 : n < 16) : Calls Tryz.prog 42 #[.int .u8 n] w fun e w' => e = .returned (.string ⟨#[hexD n.toNat]⟩) ∧ w' = w := by
  go_enter Tryz.func42, Tryz.ntmps42
  go_wp2
  go_ret
  have h : n = 0 ∨ n = 1 ∨ n = 2 ∨ n = 3 ∨ n = 4 ∨ n = 5 ∨ n = 6 ∨ n = 7 ∨ n = 8 ∨ n = 9 ∨ n = 10 ∨ n = 11 ∨ n = 12 ∨ n = 13 ∨ n = 14 ∨ n = 15 := by omega
  refine ⟨?_, rfl⟩
  rcases h with rfl | rfl | rfl | rfl | rfl | rfl | rfl | rfl | rfl | rfl | rfl | rfl | rfl | rfl | rfl | rfl <;> rfl

end Go.Proofs.YtkgkhcfonlhphaaGreatDoor
