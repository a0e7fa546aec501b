/- Contracts of the two functions that name a kind. Conditions: the table op.names as laid (for op.Name). -/
import Derived.Test.YtkgkhcfonlhphaaGreatDoorMk
namespace Go.Proofs.YtkgkhcfonlhphaaGreatDoor
open Go.RowKit

def kindNames : List ByteArray := [⟨#[111, 112, 101, 110]⟩, ⟨#[99, 108, 111, 115, 101]⟩, ⟨#[98, 101, 103, 105, 110]⟩, ⟨#[99, 111, 109, 109, 105, 116]⟩, ⟨#[114, 111, 108, 108, 98, 97, 99, 107]⟩, ⟨#[109, 97, 107, 101]⟩, ⟨#[100, 114, 111, 112]⟩, ⟨#[112, 117, 116]⟩, ⟨#[100, 101, 108, 101, 116, 101]⟩, ⟨#[103, 101, 116]⟩, ⟨#[115, 99, 97, 110]⟩, ⟨#[115, 110, 97, 112]⟩, ⟨#[117, 110, 115, 110, 97, 112]⟩, ⟨#[99, 111, 117, 110, 116]⟩, ⟨#[97, 117, 100, 105, 116]⟩, ⟨#[100, 101, 99, 108, 97, 115, 115, 105, 102, 121]⟩, ⟨#[99, 114, 97, 115, 104]⟩]
/-- a kind's name; none of another number -/
def nameB (k : Int) : ByteArray := if k < 0 ∨ 17 ≤ k then ⟨#[]⟩ else kindNames.getD k.toNat ⟨#[]⟩

/-- the table op.names, as laid -/
def NamesAt (w : World) : Prop := ∀ (k : Nat) (s : ByteArray), kindNames[k]? = some s → w.cell? ⟨0, k, none⟩ = some (.string s)

theorem names_get (k : Nat) (h : k < 17) : kindNames[k]? = some (kindNames.getD k ⟨#[]⟩) := by
  rw [List.getD_eq_getElem?_getD, List.getElem?_eq_getElem (show k < kindNames.length from h)]
  rfl

theorem op_Name (k : Int) (hk : I64 k) (w : World) (hN : NamesAt w) : Calls Tryz.prog 24 #[.int .i64 k] w fun e w' => e = .returned (.string (nameB k)) ∧ w = w' := by
  by_cases hlo : k < 0
  · have e : nameB k = ⟨#[]⟩ := if_pos (Or.inl hlo)
    rw [e]
    go_enter Tryz.func24, Tryz.ntmps24
    go_wp2
    go_ret
    exact ⟨rfl, rfl⟩
  · by_cases hhi : 17 ≤ k
    · have e : nameB k = ⟨#[]⟩ := if_pos (Or.inr hhi)
      rw [e]
      go_enter Tryz.func24, Tryz.ntmps24
      go_wp2
      go_ret
      exact ⟨rfl, rfl⟩
    · have e : nameB k = kindNames.getD k.toNat ⟨#[]⟩ := if_neg (by omega)
      obtain ⟨m, rfl⟩ : ∃ m : Nat, k = m := ⟨k.toNat, by omega⟩
      rw [Int.toNat_natCast] at e
      rw [e]
      have hm : m < 17 := by omega
      have hc := hN m _ (names_get m hm)
      generalize kindNames.getD m ⟨#[]⟩ = s at *
      clear e
      go_enter Tryz.func24, Tryz.ntmps24
      go_wp2
      go_ret
      exact ⟨rfl, rfl⟩

theorem ref_names (w : World) : Calls Tryz.prog 23 #[] w fun e w' => e = .returned (.slice (some ⟨w.heap.size, 0, none⟩) 17 17) ∧ w' = w.alloc (.cells (kindNames.map Value.string).toArray 9) := by
  go_enter Tryz.func23, Tryz.ntmps23
  go_wp2
  go_ret
  exact ⟨rfl, rfl⟩

theorem ref_Name (k : Int) (hk : I64 k) (w : World) : Calls Tryz.prog 9 #[.int .i64 k] w fun e w' => e = .returned (.string (nameB k)) ∧ Below w.heap.size w w' := by
  have hal : Below w.heap.size w (w.alloc (.cells (kindNames.map Value.string).toArray 9)) := (Below.refl _ _).alloc (Nat.le_refl _) _
  have hN : ∀ (m : Nat) s, kindNames[m]? = some s → (w.alloc (.cells (kindNames.map Value.string).toArray 9)).cell? ⟨w.heap.size, m, none⟩ = some (.string s) := by
    intro m s h
    simp [h]
  have H := Lib.hid hal
  clear hal
  generalize hw1 : w.alloc (.cells (kindNames.map Value.string).toArray 9) = w1 at *
  by_cases hlo : k < 0
  · have e : nameB k = ⟨#[]⟩ := if_pos (Or.inl hlo)
    rw [e]
    go_enter Tryz.func9, Tryz.ntmps9
    go_wp2_with (go_at_call 23; refine (ref_names _).mono ?_; rintro e w' ⟨rfl, rfl⟩; rw [hw1])
    go_ret
    exact ⟨rfl, H.out⟩
  · by_cases hhi : 17 ≤ k
    · have e : nameB k = ⟨#[]⟩ := if_pos (Or.inr hhi)
      rw [e]
      go_enter Tryz.func9, Tryz.ntmps9
      go_wp2_with (go_at_call 23; refine (ref_names _).mono ?_; rintro e w' ⟨rfl, rfl⟩; rw [hw1])
      go_ret
      exact ⟨rfl, H.out⟩
    · have e : nameB k = kindNames.getD k.toNat ⟨#[]⟩ := if_neg (by omega)
      obtain ⟨m, rfl⟩ : ∃ m : Nat, k = m := ⟨k.toNat, by omega⟩
      rw [Int.toNat_natCast] at e
      rw [e]
      have hm : m < 17 := by omega
      have hc := hN m _ (names_get m hm)
      generalize kindNames.getD m ⟨#[]⟩ = s at *
      clear e
      go_enter Tryz.func9, Tryz.ntmps9
      go_wp2_with (go_at_call 23; refine (ref_names _).mono ?_; rintro e w' ⟨rfl, rfl⟩; rw [hw1])
      go_ret
      exact ⟨rfl, H.out⟩

end Go.Proofs.YtkgkhcfonlhphaaGreatDoor
