/- Plain facts on quoting: what a text of any bytes is as a word (P31.1). No program, no condition. -/
import Derived.Test.YtkgkhcfonlhphaaGreatDoorPlain
namespace Go.Proofs.YtkgkhcfonlhphaaGreatDoor
open Uni

def bad (l : List UInt8) : Bool := (decL l).1 == 65533 && (decL l).2 == 1
def raw (l : List UInt8) : Bool := plainB (decL l).1 && !bad l
def pct (b : UInt8) : List UInt8 := [37, hexD (b.toNat / 16), hexD (b.toNat % 16)]
def piece (l : List UInt8) : List UInt8 := if raw l then l.take (decL l).2 else (l.take (decL l).2).flatMap pct
def qgo : Nat → List UInt8 → List UInt8
  | 0, _ => []
  | k + 1, l => if l = [] then [] else piece l ++ qgo k (l.drop (decL l).2)
def qrest (l : List UInt8) : List UInt8 := qgo l.length l
def quoteL (l : List UInt8) : List UInt8 := 34 :: (qrest l ++ [34])

theorem qgo_enough : ∀ (k : Nat) (l : List UInt8), l.length ≤ k → qgo k l = qgo l.length l := by
  intro k
  induction k using Nat.strongRecOn with
  | _ k ih =>
    intro l hl
    match k, l with
    | k, [] => cases k <;> simp [qgo]
    | 0, a :: l => simp at hl
    | k + 1, a :: l =>
      have hp := dec_pos (a :: l)
      have hle : ((a :: l).drop (decL (a :: l)).2).length ≤ l.length := by simp; omega
      simp only [qgo, List.length_cons]
      rw [if_neg (by simp), if_neg (by simp)]
      simp only [List.length_cons] at hl
      rw [ih k (by omega) _ (by omega)]
      by_cases hkl : l.length < k + 1
      · rw [ih l.length hkl _ hle]
      · omega

theorem qrest_nil : qrest [] = [] := rfl
theorem qrest_step (l : List UInt8) (h : l ≠ []) : qrest l = piece l ++ qrest (l.drop (decL l).2) := by
  match l, h with
  | a :: l, _ =>
    have hp := dec_pos (a :: l)
    have hle : ((a :: l).drop (decL (a :: l)).2).length ≤ l.length := by simp; omega
    unfold qrest
    simp only [List.length_cons, qgo]
    rw [if_neg (by simp), qgo_enough _ _ hle]

theorem flat_pct_length (l : List UInt8) : (l.flatMap pct).length = 3 * l.length := by
  induction l with
  | nil => rfl
  | cons a l ih => simp [List.flatMap_cons, pct, ih]; omega

theorem piece_length (l : List UInt8) (h : l ≠ []) : (piece l).length ≤ 3 * (decL l).2 := by
  have := dec_le l h
  unfold piece
  split
  · simp; omega
  · rw [flat_pct_length]; simp; omega

theorem qrest_length (l : List UInt8) : (qrest l).length ≤ 3 * l.length := by
  match l with
  | [] => simp [qrest_nil]
  | a :: l =>
    have hp := dec_pos (a :: l)
    have hle := dec_le (a :: l) (by simp)
    have ih := qrest_length ((a :: l).drop (decL (a :: l)).2)
    have hpc := piece_length (a :: l) (by simp)
    rw [qrest_step _ (by simp), List.length_append]
    simp only [List.length_drop, List.length_cons] at *
    omega
termination_by l.length
decreasing_by
  have _hp := dec_pos (a :: l)
  simp; omega

theorem quoteL_length (l : List UInt8) : (quoteL l).length ≤ 3 * l.length + 2 := by
  have := qrest_length l
  simp [quoteL]; omega

theorem decN_valid (n b0 b1 b2 b3 : Nat) (h : b0 < 256) : Lib.validRune ((Lib.decodeN n b0 b1 b2 b3).1 : Int) = true ∧ (Lib.decodeN n b0 b1 b2 b3).1 ≤ 1114111 := by
  unfold Lib.decodeN Lib.validRune
  simp only [decide_eq_true_eq]
  repeat' split
  all_goals simp only
  all_goals omega

theorem dec_valid (l : List UInt8) : Lib.validRune ((decL l).1 : Int) = true ∧ (decL l).1 ≤ 1114111 := decN_valid _ _ _ _ _ (by have := (l.getD 0 0).toNat_lt; simpa using this)

end Go.Proofs.YtkgkhcfonlhphaaGreatDoor
