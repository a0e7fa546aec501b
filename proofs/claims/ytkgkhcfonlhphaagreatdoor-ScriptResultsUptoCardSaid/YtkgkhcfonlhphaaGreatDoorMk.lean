/- Contracts of the makers of fields. -/
import Derived.Test.YtkgkhcfonlhphaaGreatDoorFields
import Derived.Great.BuildSlice
namespace Go.Proofs.YtkgkhcfonlhphaaGreatDoor
open Go.RowKit

/-- a field: its name, its closures over the box `b` -/
def fieldV (S T : Nat) (name : ByteArray) (b : Nat) : Value := .agg #[.string name, .func (.func S) #[] #[.pointer (some ⟨b, 0, none⟩)], .func (.func T) #[] #[.pointer (some ⟨b, 0, none⟩)]]

theorem field_info : (Tryz.prog.info? 64).map (·.size) = some 3 := by kernel_rfl

theorem mk_number (name : ByteArray) (F : Nat) (w : World) : Calls Tryz.prog 43 #[.string name, .func (.func F) #[] #[]] w fun e w' =>
    e = .returned (fieldV 68 69 name w.heap.size) ∧ Below w.heap.size w w' ∧ w.heap.size < w'.heap.size ∧ w'.cell? ⟨w.heap.size, 0, none⟩ = some (.func (.func F) #[] #[]) := by
  go_enter Tryz.func43, Tryz.ntmps43
  go_wp2_with fail
  refine bodyPost_ret_by (results_cell_row rfl _ _ _ _ _ _ _ rfl (heap_alloc2_new _ _ _) Tryz.underlying64 rfl field_info) rfl ?_
  exact ⟨rfl, ((Below.refl _ _).alloc (Nat.le_refl _) _).alloc (by simp) _, by simp; omega, by simp⟩

theorem mk_text (name : ByteArray) (F : Nat) (w : World) : Calls Tryz.prog 47 #[.string name, .func (.func F) #[] #[]] w fun e w' =>
    e = .returned (fieldV 71 72 name w.heap.size) ∧ Below w.heap.size w w' ∧ w.heap.size < w'.heap.size ∧ w'.cell? ⟨w.heap.size, 0, none⟩ = some (.func (.func F) #[] #[]) := by
  go_enter Tryz.func47, Tryz.ntmps47
  go_wp2_with fail
  refine bodyPost_ret_by (results_cell_row rfl _ _ _ _ _ _ _ rfl (heap_alloc2_new _ _ _) Tryz.underlying64 rfl field_info) rfl ?_
  exact ⟨rfl, ((Below.refl _ _).alloc (Nat.le_refl _) _).alloc (by simp) _, by simp; omega, by simp⟩

/-- the number of the function that tells the place of field `k`; its closures; its name -/
def fieldKeys : List (Nat × Nat × Nat × ByteArray) := [(44, 68, 69, ⟨#[108, 101, 118, 101, 108]⟩), (45, 68, 69, ⟨#[115, 101, 115, 115, 105, 111, 110]⟩), (46, 68, 69, ⟨#[115, 110, 97, 112]⟩), (48, 71, 72, ⟨#[98, 117, 99, 107, 101, 116]⟩), (49, 71, 72, ⟨#[107, 101, 121]⟩), (50, 71, 72, ⟨#[118, 97, 108, 117, 101]⟩), (51, 68, 69, ⟨#[108, 97, 98, 101, 108]⟩), (52, 68, 69, ⟨#[116, 111]⟩), (53, 68, 69, ⟨#[110]⟩)]

def fieldCells (x : (Nat × Nat × Nat × ByteArray) × Nat) : List Value := [.string x.1.2.2.2, .func (.func x.1.2.1) #[] #[.pointer (some ⟨x.2, 0, none⟩)], .func (.func x.1.2.2.1) #[] #[.pointer (some ⟨x.2, 0, none⟩)]]

/-- the row of fields: block `g` holds them, over boxes `bs` -/
structure FieldsAt (w : World) (g : Nat) (bs : List Nat) : Prop where
  len : bs.length = 9
  row : ∀ (k : Nat) (v : Value), ((fieldKeys.zip bs).flatMap fieldCells)[k]? = some v → w.cell? ⟨g, k, none⟩ = some v
  glt : g < w.heap.size
  blt : ∀ b ∈ bs, b < w.heap.size
  box : ∀ (k : Nat) (x : Nat × Nat × Nat × ByteArray) (b : Nat), fieldKeys[k]? = some x → bs[k]? = some b → w.cell? ⟨b, 0, none⟩ = some (.func (.func x.1) #[] #[])

theorem FieldsAt.below {w w' : World} {g : Nat} {bs : List Nat} (h : FieldsAt w g bs) (hb : Below w.heap.size w w') : FieldsAt w' g bs :=
  ⟨h.len, fun k v hv => by rw [hb.cell h.glt]; exact h.row k v hv, Nat.lt_of_lt_of_le h.glt hb.size, fun b hbm => Nat.lt_of_lt_of_le (h.blt b hbm) hb.size,
   fun k x b hx hbk => by rw [hb.cell (h.blt b (List.mem_of_getElem? hbk))]; exact h.box k x b hx hbk⟩

theorem field_zero : (Tryz.prog.info? 64).map (fun i => (i.zero, i.size)) = some (some (.agg #[.string ⟨#[]⟩, .nilFunc, .nilFunc]), 3) := by kernel_rfl

set_option maxHeartbeats 1000000 in
set_option maxRecDepth 100000 in
theorem fields_any (w : World) : Calls Tryz.prog 25 #[] w fun e w' => ∃ g, e = .returned (.slice (some ⟨g, 0, none⟩) 9 9) ∧ (∃ bs, FieldsAt w' g bs ∧ ∀ b ∈ bs, w.heap.size ≤ b) ∧ Below w.heap.size w w' ∧ w.heap.size ≤ g := by
  obtain ⟨ie, hie, hez⟩ := Option.map_eq_some_iff.1 field_zero
  simp only [Prod.mk.injEq] at hez
  obtain ⟨hez, hes⟩ := hez
  go_enter Tryz.func25, Tryz.ntmps25
  go_wp2_with (go_at_call 43; refine (mk_number _ _ _).mono ?_)
  rintro e w1 ⟨rfl, hb1, hs1, hc1⟩
  go_wp2_with (go_at_call 43; refine (mk_number _ _ _).mono ?_)
  rintro e w2 ⟨rfl, hb2, hs2, hc2⟩
  go_wp2_with (go_at_call 43; refine (mk_number _ _ _).mono ?_)
  rintro e w3 ⟨rfl, hb3, hs3, hc3⟩
  go_wp2_with (go_at_call 47; refine (mk_text _ _ _).mono ?_)
  rintro e w4 ⟨rfl, hb4, hs4, hc4⟩
  go_wp2_with (go_at_call 47; refine (mk_text _ _ _).mono ?_)
  rintro e w5 ⟨rfl, hb5, hs5, hc5⟩
  go_wp2_with (go_at_call 47; refine (mk_text _ _ _).mono ?_)
  rintro e w6 ⟨rfl, hb6, hs6, hc6⟩
  go_wp2_with (go_at_call 43; refine (mk_number _ _ _).mono ?_)
  rintro e w7 ⟨rfl, hb7, hs7, hc7⟩
  go_wp2_with (go_at_call 43; refine (mk_number _ _ _).mono ?_)
  rintro e w8 ⟨rfl, hb8, hs8, hc8⟩
  go_wp2_with (go_at_call 43; refine (mk_number _ _ _).mono ?_)
  rintro e w9 ⟨rfl, hb9, hs9, hc9⟩
  rename_i hK
  refine hK _ _ ?_
  clear hK
  have hvs : ∀ v ∈ [fieldV 68 69 ⟨#[108, 101, 118, 101, 108]⟩ w.heap.size, fieldV 68 69 ⟨#[115, 101, 115, 115, 105, 111, 110]⟩ w1.heap.size, fieldV 68 69 ⟨#[115, 110, 97, 112]⟩ w2.heap.size, fieldV 71 72 ⟨#[98, 117, 99, 107, 101, 116]⟩ w3.heap.size, fieldV 71 72 ⟨#[107, 101, 121]⟩ w4.heap.size, fieldV 71 72 ⟨#[118, 97, 108, 117, 101]⟩ w5.heap.size, fieldV 68 69 ⟨#[108, 97, 98, 101, 108]⟩ w6.heap.size, fieldV 68 69 ⟨#[116, 111]⟩ w7.heap.size, fieldV 68 69 ⟨#[110]⟩ w8.heap.size], v.cells.size = 3 := by simp [fieldV, Value.cells]
  have hfc : ([fieldV 68 69 ⟨#[108, 101, 118, 101, 108]⟩ w.heap.size, fieldV 68 69 ⟨#[115, 101, 115, 115, 105, 111, 110]⟩ w1.heap.size, fieldV 68 69 ⟨#[115, 110, 97, 112]⟩ w2.heap.size, fieldV 71 72 ⟨#[98, 117, 99, 107, 101, 116]⟩ w3.heap.size, fieldV 71 72 ⟨#[107, 101, 121]⟩ w4.heap.size, fieldV 71 72 ⟨#[118, 97, 108, 117, 101]⟩ w5.heap.size, fieldV 68 69 ⟨#[108, 97, 98, 101, 108]⟩ w6.heap.size, fieldV 68 69 ⟨#[116, 111]⟩ w7.heap.size, fieldV 68 69 ⟨#[110]⟩ w8.heap.size].flatMap fun v => v.cells.toList) = (fieldKeys.zip [w.heap.size, w1.heap.size, w2.heap.size, w3.heap.size, w4.heap.size, w5.heap.size, w6.heap.size, w7.heap.size, w8.heap.size]).flatMap fieldCells := rfl
  refine wpList_buildSlice rfl 59 64 9 _ rfl ((fieldKeys.zip [w.heap.size, w1.heap.size, w2.heap.size, w3.heap.size, w4.heap.size, w5.heap.size, w6.heap.size, w7.heap.size, w8.heap.size]).flatMap fieldCells).toArray ie _ Tryz.underlying59 hie hez (by rw [hes]; decide) (by rw [hes]; decide) (by rw [hes, ← hfc, Array.toList_map]; refine Great.fill_whole (s := 3) (by omega) [fieldV 68 69 ⟨#[108, 101, 118, 101, 108]⟩ w.heap.size, fieldV 68 69 ⟨#[115, 101, 115, 115, 105, 111, 110]⟩ w1.heap.size, fieldV 68 69 ⟨#[115, 110, 97, 112]⟩ w2.heap.size, fieldV 71 72 ⟨#[98, 117, 99, 107, 101, 116]⟩ w3.heap.size, fieldV 71 72 ⟨#[107, 101, 121]⟩ w4.heap.size, fieldV 71 72 ⟨#[118, 97, 108, 117, 101]⟩ w5.heap.size, fieldV 68 69 ⟨#[108, 97, 98, 101, 108]⟩ w6.heap.size, fieldV 68 69 ⟨#[116, 111]⟩ w7.heap.size, fieldV 68 69 ⟨#[110]⟩ w8.heap.size] _ hvs ?_; simp) ?_
  clear hvs hfc
  obtain ⟨bs, hbs⟩ : ∃ bs, bs = [w.heap.size, w1.heap.size, w2.heap.size, w3.heap.size, w4.heap.size, w5.heap.size, w6.heap.size, w7.heap.size, w8.heap.size] := ⟨_, rfl⟩
  rw [← hbs]
  obtain ⟨C, hC⟩ : ∃ C, C = (fieldKeys.zip bs).flatMap fieldCells := ⟨_, rfl⟩
  rw [← hC]
  have HB := Lib.hid hbs
  have HC := Lib.hid hC
  clear hbs hC
  go_wp2_with fail
  go_ret
  have H9 : Below w9.heap.size w9 (w9.alloc (.cells C.toArray 64)) := (Below.refl _ _).alloc (Nat.le_refl _) _
  have h8 := hb9.trans (H9.mono (Nat.le_of_lt hs9))
  have h7 := hb8.trans (h8.mono (Nat.le_of_lt hs8))
  have h6 := hb7.trans (h7.mono (Nat.le_of_lt hs7))
  have h5 := hb6.trans (h6.mono (Nat.le_of_lt hs6))
  have h4 := hb5.trans (h5.mono (Nat.le_of_lt hs5))
  have h3 := hb4.trans (h4.mono (Nat.le_of_lt hs4))
  have h2 := hb3.trans (h3.mono (Nat.le_of_lt hs3))
  have h1 := hb2.trans (h2.mono (Nat.le_of_lt hs2))
  have h0 := hb1.trans (h1.mono (Nat.le_of_lt hs1))
  refine ⟨_, rfl, ⟨bs, ⟨by rw [HB.out]; rfl, fun k v hv => ?_, by simp, fun b hb => ?_, fun k x b hx hb => ?_⟩, fun b hb => ?_⟩, h0, by omega⟩
  · rw [← HC.out] at hv
    simp [hv]
  · rw [HB.out] at hb
    simp only [List.mem_cons, List.not_mem_nil, or_false] at hb
    have : (w9.alloc (.cells C.toArray 64)).heap.size = w9.heap.size + 1 := by simp
    omega
  · rw [HB.out] at hb
    match k, hx, hb with
    | 0, hx, hb => cases hx; cases hb; rw [h1.cell (by exact hs1)]; exact hc1
    | 1, hx, hb => cases hx; cases hb; rw [h2.cell (by exact hs2)]; exact hc2
    | 2, hx, hb => cases hx; cases hb; rw [h3.cell (by exact hs3)]; exact hc3
    | 3, hx, hb => cases hx; cases hb; rw [h4.cell (by exact hs4)]; exact hc4
    | 4, hx, hb => cases hx; cases hb; rw [h5.cell (by exact hs5)]; exact hc5
    | 5, hx, hb => cases hx; cases hb; rw [h6.cell (by exact hs6)]; exact hc6
    | 6, hx, hb => cases hx; cases hb; rw [h7.cell (by exact hs7)]; exact hc7
    | 7, hx, hb => cases hx; cases hb; rw [h8.cell (by exact hs8)]; exact hc8
    | 8, hx, hb => cases hx; cases hb; rw [H9.cell (by exact hs9)]; exact hc9
    | k + 9, hx, hb => simp at hb
  · rw [HB.out] at hb
    simp only [List.mem_cons, List.not_mem_nil, or_false] at hb
    omega

end Go.Proofs.YtkgkhcfonlhphaaGreatDoor
