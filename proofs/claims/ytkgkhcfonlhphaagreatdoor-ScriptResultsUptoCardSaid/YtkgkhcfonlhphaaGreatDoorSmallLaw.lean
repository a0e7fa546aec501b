/- The law's small: a bound on an operation's texts. -/
import Derived.Test.YtkgkhcfonlhphaaGreatDoorSame
namespace Go.Proofs.YtkgkhcfonlhphaaGreatDoor
open Go.RowKit

def keepSum (l : List ByteArray) : Nat := (l.map (·.size)).sum
def smallV (o : OpV) : Bool := decide (o.bucket.size + o.key.size + o.value.size + keepSum o.keep ≤ 1000) && decide (o.keep.length ≤ 70)

theorem keepSum_step (l : List ByteArray) (k : Nat) (s : ByteArray) (h : l[k]? = some s) : keepSum (l.take (k + 1)) = keepSum (l.take k) + s.size := by
  unfold keepSum
  rw [List.take_add_one, h]
  simp

theorem keepSum_le (l : List ByteArray) (k : Nat) : keepSum (l.take k) ≤ keepSum l := by
  unfold keepSum
  conv => rhs; rw [← List.take_append_drop k l, List.map_append, List.sum_append]
  exact Nat.le_add_right _ _

set_option maxHeartbeats 1000000 in
set_option maxRecDepth 100000 in
theorem law_small (o : OpV) (A : Option Addr) (c : Nat) (w : World) (hA : KeepAt w o A c) (hS : o.bucket.size + o.key.size + o.value.size + keepSum o.keep ≤ 4611686018427387904) (hL : o.keep.length ≤ 4611686018427387904) :
    Calls Tryz.prog 8 #[.agg (o.cells A c)] w fun e w' => e = .returned (.bool (smallV o)) ∧ Below w.heap.size w w' := by
  obtain ⟨q, hq⟩ : ∃ q, smallV o = q := ⟨_, rfl⟩
  rw [hq]
  have HQ := Lib.hid hq
  clear hq
  obtain ⟨kind, level, session, snap, bucket, key, value, label, dst, n, keep⟩ := o
  simp only at hS hL
  have HA := Lib.hid hA
  have hc1 : keep.length ≤ c := hA.1
  clear hA
  unfold OpV.cells
  simp only
  go_enter Tryz.func8, Tryz.ntmps8
  go_wp2_with fail
  obtain ⟨W, hW⟩ : ∃ W, w.alloc (OpV.box ⟨kind, level, session, snap, bucket, key, value, label, dst, n, keep⟩ A c) = W := ⟨_, rfl⟩
  have hbW : Below w.heap.size w W := by rw [← hW]; exact (Below.refl _ _).alloc (Nat.le_refl _) _
  have hszW : w.heap.size < W.heap.size := by rw [← hW]; simp
  have k1 : W.cell? ⟨w.heap.size, 10, none⟩ = some (.slice A keep.length c) := by rw [← hW]; simp [OpV.box, OpV.cells]
  go_loopw [3, 4] (fun a i wr => ∃ k : Nat, k ≤ keep.length ∧ i = .int .i64 (k : Int) ∧ a = .int .i64 ((bucket.size + key.size + value.size + keepSum (keep.take k) : Nat) : Int) ∧ Below W.heap.size W wr) (fun _ i _ => keep.length - (intOf i).toNat)
  case atStart =>
    refine ⟨0, by omega, rfl, ?_, ?_⟩
    · simp [keepSum]
    · rw [← hW]
      exact Below.refl _ _
  case round =>
    obtain ⟨k, hk, rfl, rfl, hb⟩ := hrel
    have c1 := (hb.cell (p := ⟨w.heap.size, 10, none⟩) hszW).trans k1
    have hbw : Below w.heap.size w wr := hbW.trans (hb.mono (by omega))
    have HB := Lib.hid (And.intro hb hbw)
    have hle := keepSum_le keep k
    clear hb hbw
    by_cases hlt : k < keep.length
    · obtain ⟨b, f, rfl, hbl, hcell⟩ := HA.out.2.2 (show 0 < keep.length by omega)
      have hrk : keep[k]? = some keep[k] := List.getElem?_eq_getElem hlt
      generalize keep[k] = s at *
      have e1 : wr.cell? ⟨b, f + k, none⟩ = some (.string s) := by
        rw [HB.out.2.cell (p := ⟨b, f + k, none⟩) hbl]
        exact hcell k _ (by rw [List.getElem?_map, hrk]; rfl)
      have hst := keepSum_step keep k s hrk
      have hle2 := keepSum_le keep (k + 1)
      have hnext : Value.int .i64 (((bucket.size + key.size + value.size + keepSum (keep.take k) : Nat) : Int) + (s.size : Int)) = .int .i64 ((bucket.size + key.size + value.size + keepSum (keep.take (k + 1)) : Nat) : Int) := by
        rw [hst]
        congr 1
        omega
      have hbd : bucket.size + key.size + value.size + keepSum (keep.take k) + s.size ≤ 4611686018427387904 := by omega
      have HN := Lib.hid hnext
      clear hcell hrk k1 hnext hst hle2 hle
      generalize bucket.size + key.size + value.size + keepSum (keep.take k) = m at *
      go_wp2_with fail
      exact ⟨⟨k + 1, by omega, by go_num, HN.out, HB.out.1⟩, by simp [intOf]; omega⟩
    · have hkk : keep.take k = keep := List.take_of_length_le (by omega)
      rw [hkk]
      have hq : q = (decide (bucket.size + key.size + value.size + keepSum keep ≤ 1000) && decide (keep.length ≤ 70)) := HQ.out.symm
      have HQ2 := Lib.hid hq
      clear hq hkk hle
      generalize bucket.size + key.size + value.size + keepSum keep = m at *
      by_cases h1 : m ≤ 1000
      · by_cases h2 : keep.length ≤ 70
        · go_wp2_with fail
          go_ret
          refine ⟨?_, HB.out.2⟩
          rw [HQ2.out]
          simp [h1, h2]
          try omega
        · go_wp2_with fail
          go_ret
          refine ⟨?_, HB.out.2⟩
          rw [HQ2.out]
          simp [h1, h2]
          try omega
      · go_wp2_with fail
        go_ret
        refine ⟨?_, HB.out.2⟩
        rw [HQ2.out]
        simp [h1]

end Go.Proofs.YtkgkhcfonlhphaaGreatDoor
