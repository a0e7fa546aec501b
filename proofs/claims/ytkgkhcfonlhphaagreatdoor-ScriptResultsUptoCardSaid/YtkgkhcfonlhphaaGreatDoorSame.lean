/- The contract of the reference's Same at two values of one operation. -/
import Derived.Test.YtkgkhcfonlhphaaGreatDoorPart
namespace Go.Proofs.YtkgkhcfonlhphaaGreatDoor
open Go.RowKit

set_option maxHeartbeats 1000000 in
set_option maxRecDepth 100000 in
theorem ref_Same (o : OpV) (ho : o.ok) (A A2 : Option Addr) (c c2 : Nat) (w : World) (hA : KeepAt w o A c) (hA2 : KeepAt w o A2 c2) :
    Calls Tryz.prog 16 #[.agg (o.cells A c), .agg (o.cells A2 c2)] w fun e w' => e = .returned (.bool true) ∧ Below w.heap.size w w' := by
  obtain ⟨kind, level, session, snap, bucket, key, value, label, dst, n, keep⟩ := o
  have hkl := ho.keepN
  simp only at hkl
  have HA := Lib.hid (And.intro hA hA2)
  have hc1 : keep.length ≤ c := hA.1
  have hc2 : keep.length ≤ c2 := hA2.1
  clear hA hA2 ho
  have hb1 : (bucket.toList == bucket.toList) = true := beq_self_eq_true _
  have hb2 : (key.toList == key.toList) = true := beq_self_eq_true _
  have hb3 : (value.toList == value.toList) = true := beq_self_eq_true _
  unfold OpV.cells
  simp only
  go_enter Tryz.func16, Tryz.ntmps16
  go_wp2_with fail
  obtain ⟨W, hW⟩ : ∃ W, (w.alloc (OpV.box ⟨kind, level, session, snap, bucket, key, value, label, dst, n, keep⟩ A c)).alloc (OpV.box ⟨kind, level, session, snap, bucket, key, value, label, dst, n, keep⟩ A2 c2) = W := ⟨_, rfl⟩
  have hbW : Below w.heap.size w W := by rw [← hW]; exact ((Below.refl _ _).alloc (Nat.le_refl _) _).alloc (by simp) _
  have hszW : W.heap.size = w.heap.size + 2 := by rw [← hW]; simp
  have k1 : W.cell? ⟨w.heap.size, 10, none⟩ = some (.slice A keep.length c) := by rw [← hW]; simp [OpV.box, OpV.cells]
  have k2 : W.cell? ⟨w.heap.size + 1, 10, none⟩ = some (.slice A2 keep.length c2) := by rw [← hW]; simp [OpV.box, OpV.cells]
  go_loopw [5] (fun i wr => ∃ k : Nat, k ≤ keep.length ∧ i = .int .i64 (k : Int) ∧ Below W.heap.size W wr) (fun i _ => keep.length - (intOf i).toNat)
  case atStart =>
    refine ⟨0, by omega, rfl, ?_⟩
    rw [← hW]
    exact Below.refl _ _
  case round =>
    obtain ⟨k, hk, rfl, hb⟩ := hrel
    have c1 := (hb.cell (p := ⟨w.heap.size, 10, none⟩) (by simp; omega)).trans k1
    have c2' := (hb.cell (p := ⟨w.heap.size + 1, 10, none⟩) (by simp; omega)).trans k2
    have hbw : Below w.heap.size w wr := hbW.trans (hb.mono (by omega))
    have HB := Lib.hid (And.intro hb hbw)
    clear hb hbw
    by_cases hlt : k < keep.length
    · obtain ⟨b, f, rfl, hbl, hcell⟩ := HA.out.1.2.2 (show 0 < keep.length by omega)
      obtain ⟨b2, f2, rfl, hbl2, hcell2⟩ := HA.out.2.2.2 (show 0 < keep.length by omega)
      have hrk : keep[k]? = some keep[k] := List.getElem?_eq_getElem hlt
      generalize keep[k] = s at *
      have e1 : wr.cell? ⟨b, f + k, none⟩ = some (.string s) := by
        rw [HB.out.2.cell (p := ⟨b, f + k, none⟩) hbl]
        exact hcell k _ (by rw [List.getElem?_map, hrk]; rfl)
      have e2 : wr.cell? ⟨b2, f2 + k, none⟩ = some (.string s) := by
        rw [HB.out.2.cell (p := ⟨b2, f2 + k, none⟩) hbl2]
        exact hcell2 k _ (by rw [List.getElem?_map, hrk]; rfl)
      have hss : (s.toList == s.toList) = true := beq_self_eq_true _
      clear hcell hcell2 hrk k1 k2
      have hq1 : w.heap.size < wr.heap.size := by have := HB.out.1.size; omega
      have hq2 : w.heap.size + 1 < wr.heap.size := by have := HB.out.1.size; omega
      have hq3 : b < wr.heap.size := by omega
      have hq4 : b2 < wr.heap.size := by omega
      go_wp2_with fail
      refine wp_region_grow (by kernel_rfl) (by kernel_rfl) ?_
      repeat (refine wpQuiet_step (fun K hK => ?_); go_simp; first | (refine hK _ ?_; clear hK K) | (apply Exists.intro; refine ⟨fun w' hw' => ?_, hK _ ?_⟩; (first | (rw [if_neg (by omega)]; exact ⟨rfl, rfl⟩) | (obtain ⟨hc, hf⟩ := bcell hw'; go_simp; first | exact ⟨rfl, rfl⟩ | rfl)); clear hK K))
      refine wpQuiet_nil ?_
      intro w2 hw2
      go_wp2_with fail
      exact ⟨⟨k + 1, by omega, by go_num, HB.out.1.trans (hw2.mono HB.out.1.size)⟩, by simp [intOf]; omega⟩
    · go_wp2_with fail
      go_ret
      exact ⟨rfl, HB.out.2⟩

end Go.Proofs.YtkgkhcfonlhphaaGreatDoor
