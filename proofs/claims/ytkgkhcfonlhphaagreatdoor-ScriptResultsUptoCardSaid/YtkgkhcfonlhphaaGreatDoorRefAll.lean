/- The contract of the reference's All at two rows of the same operations. -/
import Derived.Test.YtkgkhcfonlhphaaGreatDoorAll
namespace Go.Proofs.YtkgkhcfonlhphaaGreatDoor
open Go.RowKit

/-- a slice that reads as operations -/
def OpsRead (w : World) (A : Option Addr) (c : Nat) (os : List OpV) : Prop :=
  os.length ≤ c ∧ ∃ vs : List (Option Addr × Nat), vs.length = os.length ∧ Reads w w.heap.size 11 A os.length ((os.zip vs).flatMap opCells) ∧ ∀ x ∈ os.zip vs, KeepAt w x.1 x.2.1 x.2.2

theorem OpsRead.keep {w w' : World} {A : Option Addr} {c : Nat} {os : List OpV} (h : OpsRead w A c os) (hb : Below w.heap.size w w') : OpsRead w' A c os := by
  obtain ⟨hc, vs, h1, h2, h3⟩ := h
  exact ⟨hc, vs, h1, (h2.below hb).more hb.size, fun x hx => (h3 x hx).keep hb⟩

theorem OpsAt.read {B : Nat} {v : Value} {os : List OpV} {w : World} (h : OpsAt B v os w) : ∃ A c, v = .slice A os.length c ∧ OpsRead w A c os := by
  obtain ⟨vs, h1, h2, h3⟩ := h
  have hv : ∃ A c, v = .slice A os.length c ∧ os.length ≤ c := by
    rcases h2.2 with ⟨hv, h0⟩ | ⟨g, cap, cur, hv, _, _, hc, _⟩
    · exact ⟨none, 0, by rw [hv, h0], by omega⟩
    · exact ⟨_, cap, hv, hc⟩
  obtain ⟨A, c, rfl, hc⟩ := hv
  exact ⟨A, c, rfl, hc, vs, h1, Reads.of_own h2, fun x hx => (h3 x hx).1⟩

/-- the cells of operation `k` -/
theorem OpsRead.at {w : World} {A : Option Addr} {c : Nat} {os : List OpV} (h : OpsRead w A c os) (k : Nat) (hk : k < os.length) :
    ∃ b f A' c', A = some ⟨b, f, none⟩ ∧ b < w.heap.size ∧ KeepAt w os[k] A' c' ∧ ∀ j v, (os[k].cells A' c')[j]? = some v → w.cell? ⟨b, f + k * 11 + j, none⟩ = some v := by
  obtain ⟨_, vs, h1, h2, h3⟩ := h
  obtain ⟨b, f, rfl, hb, hc⟩ := h2.2 (by omega)
  have hz : (os.zip vs)[k]? = some (os[k], vs[k]) := by
    rw [List.getElem?_eq_getElem (by simp; omega), List.getElem_zip]
  refine ⟨b, f, vs[k].1, vs[k].2, rfl, hb, h3 _ (List.mem_of_getElem? hz), fun j v hj => ?_⟩
  have hj11 : j < 11 := by
    have := (Array.getElem?_eq_some_iff.1 hj).1
    exact this
  rw [Nat.add_assoc]
  refine hc _ _ ?_
  rw [flat_get opCells 11 (fun x => rfl) _ k _ j hz hj11]
  show ((os[k].cells vs[k].1 vs[k].2).toList)[j]? = _
  rw [Array.getElem?_toList]
  exact hj

set_option maxHeartbeats 1000000 in
set_option maxRecDepth 100000 in
theorem ref_All (os : List OpV) (ho : ∀ o ∈ os, o.ok) (hl : os.length ≤ 1000) (A : Option Addr) (c : Nat) (A2 : Option Addr) (c2 : Nat) (w : World) (hA : OpsRead w A c os) (hA2 : OpsRead w A2 c2 os) :
    Calls Tryz.prog 12 #[.slice A os.length c, .slice A2 os.length c2] w fun e w' => e = .returned (.bool true) ∧ Below w.heap.size w w' := by
  obtain ⟨n, hn⟩ : ∃ n, os.length = n := ⟨_, rfl⟩
  have HA := Lib.hid (And.intro hA hA2)
  have Ho := Lib.hid ho
  have Hn := Lib.hid hn
  have hc1 : n ≤ c := by rw [← hn]; exact hA.1
  have hc2 : n ≤ c2 := by rw [← hn]; exact hA2.1
  rw [hn] at hl
  rw [hn]
  clear hA hA2 ho hn
  go_enter Tryz.func12, Tryz.ntmps12
  go_wp2_with fail
  go_loopw [5] (fun i wr => ∃ k : Nat, k ≤ n ∧ i = .int .i64 (k : Int) ∧ Below w.heap.size w wr) (fun i _ => n - (intOf i).toNat)
  case atStart => exact ⟨0, by omega, rfl, Below.refl _ _⟩
  case round =>
    obtain ⟨k, hk, rfl, hb⟩ := hrel
    by_cases hlt : k < n
    · have hko : k < os.length := by rw [Hn.out]; exact hlt
      obtain ⟨b, f, A', c', rfl, hbl, hK1, hg1⟩ := (HA.out.1.keep hb).at k hko
      obtain ⟨b2, f2, A2', c2', rfl, hbl2, hK2, hg2⟩ := (HA.out.2.keep hb).at k hko
      have hok := Ho.out _ (List.getElem_mem hko)
      have hS := fun (W : World) (hW : Gr wr W) => ref_Same _ hok A' A2' c' c2' W (hK1.keep hW) (hK2.keep hW)
      generalize os[k] = o at hok hS hg1 hg2 hK1 hK2
      have Hb := Lib.hid hb
      obtain ⟨kind, level, session, snap, bucket, key, value, label, dst, nn, keep⟩ := o
      have e0 := hg1 0 _ rfl
      have e1 := hg1 1 _ rfl
      have e2 := hg1 2 _ rfl
      have e3 := hg1 3 _ rfl
      have e4 := hg1 4 _ rfl
      have e5 := hg1 5 _ rfl
      have e6 := hg1 6 _ rfl
      have e7 := hg1 7 _ rfl
      have e8 := hg1 8 _ rfl
      have e9 := hg1 9 _ rfl
      have e10 := hg1 10 _ rfl
      have d0 := hg2 0 _ rfl
      have d1 := hg2 1 _ rfl
      have d2 := hg2 2 _ rfl
      have d3 := hg2 3 _ rfl
      have d4 := hg2 4 _ rfl
      have d5 := hg2 5 _ rfl
      have d6 := hg2 6 _ rfl
      have d7 := hg2 7 _ rfl
      have d8 := hg2 8 _ rfl
      have d9 := hg2 9 _ rfl
      have d10 := hg2 10 _ rfl
      simp only [OpV.cells, List.getElem_toArray, List.getElem_cons_zero, List.getElem_cons_succ, Nat.add_zero] at e0 e1 e2 e3 e4 e5 e6 e7 e8 e9 e10 d0 d1 d2 d3 d4 d5 d6 d7 d8 d9 d10
      simp only [OpV.cells] at hS
      have HS := Lib.hid hS
      clear hg1 hg2 hK1 hK2 hS hok hb
      go_wp2_with fail
      refine wp_region_grow (by kernel_rfl) (by kernel_rfl) ?_
      repeat (refine wpQuiet_step (fun K hK => ?_); go_simp; first | (refine hK _ ?_; clear hK K) | (apply Exists.intro; refine ⟨fun w' hw' => ?_, hK _ ?_⟩; (first | (rw [if_neg (by omega)]; exact ⟨rfl, rfl⟩) | (go_at_call 16; refine (HS.out _ hw').mono ?_; rintro e w'' ⟨rfl, hb⟩; exact ⟨rfl, hw'.trans' hb⟩) | (obtain ⟨hc, hf⟩ := bcell hw'; go_simp; first | exact ⟨rfl, rfl⟩ | rfl)); clear hK K))
      refine wpQuiet_nil ?_
      intro w2 hw2
      go_wp2_with fail
      exact ⟨⟨k + 1, by omega, by go_num, Hb.out.trans (hw2.mono Hb.out.size)⟩, by simp [intOf]; omega⟩
    · go_wp2_with fail
      go_ret
      exact ⟨rfl, hb⟩

end Go.Proofs.YtkgkhcfonlhphaaGreatDoor
