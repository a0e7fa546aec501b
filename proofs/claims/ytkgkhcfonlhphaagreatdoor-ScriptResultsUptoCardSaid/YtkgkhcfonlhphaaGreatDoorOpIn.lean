/- What a row of operations reads as; a row's last step behind a call that only grew the world. -/
import Derived.Test.YtkgkhcfonlhphaaGreatDoorTabsIn
import Derived.Test.YtkgkhcfonlhphaaGreatDoorCards
import Derived.Test.YtkgkhcfonlhphaaGreatDoorTie
import Derived.WalkKit
import Derived.ProofKit
import Derived.OpenShut
import Derived.Deep.DeepHandedRow
import Derived.Deep.DeepWitnessRowRef
namespace Go.Proofs.YtkgkhcfonlhphaaGreatDoor
open Go.ChangeShapes Go.WideShapes Go.ChangeAt Go.Deep Go.RowKit
open Go.ChangeMaps (open_string shut_string)

section
variable {H : Type} {enc : TypeId × Value → H} {P : Program}
theorem post_of_below' {f : Func} {s : ChangeSpec} {apart fresh handsOn again : Bool} {W W' : World} {args : Array Value} {v : Value} {ds gs : List (DataW H)} {before pa pv : List MemPlace}
    (hW : DataW.Whole enc P f.params.toList s.vars apart W args.toList ds gs before)
    (hres : ∀ (b : Nat) (sp : Nat → Bool) (hd : Bool), DataW.TrodAll enc P W' b sp hd f.resultTypes.toList (v.resultList f.resultTypes.size) (s.fn H (ds ++ gs)).results [])
    (hargs : ∀ sp : Nat → Bool, (∀ p ∈ before, sp p.block = true) → DataW.TrodAll enc P W' 0 sp true f.params.toList args.toList (s.fn H (ds ++ gs)).args pa)
    (hvars : ∀ sp : Nat → Bool, (∀ p ∈ before, sp p.block = true) → DataW.TrodVars enc P W' sp s.vars (s.fn H (ds ++ gs)).vars pv)
    (hps : before = pa ++ pv) (hb : Below W.heap.size W W')
    (hok : ∀ (j : Nat) (t : TypeId) (r : Value), f.resultTypes[j]? = some t → (v.resultList f.resultTypes.size)[j]? = some r → Value.okWide P W' .any 0 t r) :
    s.post enc P f apart fresh handsOn again W args v W' := by
  have hlt : ∀ p ∈ before, p.block < W.heap.size := fun p hp => hW.lt p hp
  have hold : ∀ p ∈ before, (fun b => decide (b < W.heap.size)) p.block = true := fun p hp => by simpa using hlt p hp
  refine ⟨ds, gs, before, [], pa, pv, hW, hres _ _ _, hargs _ hold, hvars _ hold, World.keptBut_mono (fun p hp => ⟨hp, ?_⟩) (hb.frame (· ∈ before)), fun _ => ?_⟩
  · rw [hps, List.mem_append] at hp
    exact Or.inr hp
  · obtain ⟨_, _, _, _, _, hz, hn⟩ := hW
    refine ⟨hok, _, _, ([] ++ pa) ++ pv, ⟨[] ++ pa, pv, trodAll_append (hargs _ (fun _ _ => rfl)) (hres _ _ _), hvars _ (fun _ _ => rfl), rfl, ?_, ?_⟩, ?_⟩
    · intro b off hp
      have hin : MemPlace.cell b off ∈ before := by rw [hps]; simpa using hp
      rw [hb.frozen (hlt _ hin)]
      exact hz b off hin
    · intro ha
      have := hn ha
      rw [hps] at this
      simpa using this
    · intro p hp _
      rw [hps]
      simpa using hp
end

theorem laid_out : laidOutB Tryz.prog = true := by kernel_rfl

/-- an operation among an argument's -/
def OpGood {H : Type} (W : World) (x : OpV × (Option Addr × Nat)) (d : DataW H) : Prop :=
  x.1.ints ∧ KeepAt W x.1 x.2.1 x.2.2 ∧ ∀ B, (∀ q ∈ d.weights Tryz.prog 36, q ≤ B) → x.1.bucket.size ≤ B ∧ x.1.key.size ≤ B ∧ x.1.value.size ≤ B ∧ x.1.keep.length ≤ B ∧ ∀ s ∈ x.1.keep, s.size ≤ B

theorem weight_part {H : Type} {t : TypeId} {fs : Array Field} {parts : List (DataW H)} (ht : Tryz.prog.underlying t = some (.struct fs)) {j : Nat} {f : Field} {d : DataW H} (hj : fs.toList[j]? = some f) (hd : parts[j]? = some d) :
    ∀ q ∈ d.weights Tryz.prog f.type, q ∈ (DataW.agg parts).weights Tryz.prog t := by
  intro q hq
  simp only [DataW.weights, ht]
  exact DataW.weights_mem_each (by rw [List.getElem?_map, hj]; rfl) hd q hq

theorem weight_str {H : Type} {s : ByteArray} {B : Nat} {t : TypeId} (h : ∀ q ∈ (DataW.lit (H := H) (.string s.data.toList)).weights Tryz.prog t, q ≤ B) : s.size ≤ B := by
  have h1 := h s.data.toList.length (by simp [DataW.weights])
  have a0 : s.data.toList.length = s.size := by rw [Array.length_toList]; rfl
  omega

set_option maxRecDepth 100000 in
theorem rd_op {H : Type} {enc : TypeId × Value → H} {w : World} {base : Nat} {spare : Nat → Bool} {held : Bool} {n : Nat} {cs : List Value} {y : DataW H × List MemPlace} (h : DataW.trod enc Tryz.prog w base spare held n 36 cs = some y) :
    ∃ x : OpV × (Option Addr × Nat), cs = opCells x ∧ OpGood w x y.1 := by
  obtain ⟨xs, m, _, rfl, hlen, hxl, hf⟩ := DataW.trod_struct Tryz.underlying36 h
  rw [cells_op] at hlen
  match cs, hlen with
  | [c0, c1, c2, c3, c4, c5, c6, c7, c8, c9, c10], _ =>
    match xs, hxl with
    | [x0, x1, x2, x3, x4, x5, x6, x7, x8, x9, x10], _ =>
      have h0 : DataW.trod enc Tryz.prog w base spare held m 3 (([c0, c1, c2, c3, c4, c5, c6, c7, c8, c9, c10].drop 0).take (Tryz.prog.cellsOf 3)) = some x0 := hf 0 _ rfl
      have h1 : DataW.trod enc Tryz.prog w base spare held m 3 (([c0, c1, c2, c3, c4, c5, c6, c7, c8, c9, c10].drop 1).take (Tryz.prog.cellsOf 3)) = some x1 := hf 1 _ rfl
      have h2 : DataW.trod enc Tryz.prog w base spare held m 3 (([c0, c1, c2, c3, c4, c5, c6, c7, c8, c9, c10].drop 2).take (Tryz.prog.cellsOf 3)) = some x2 := hf 2 _ rfl
      have h3 : DataW.trod enc Tryz.prog w base spare held m 3 (([c0, c1, c2, c3, c4, c5, c6, c7, c8, c9, c10].drop 3).take (Tryz.prog.cellsOf 3)) = some x3 := hf 3 _ rfl
      have h4 : DataW.trod enc Tryz.prog w base spare held m 9 (([c0, c1, c2, c3, c4, c5, c6, c7, c8, c9, c10].drop 4).take (Tryz.prog.cellsOf 9)) = some x4 := hf 4 _ rfl
      have h5 : DataW.trod enc Tryz.prog w base spare held m 9 (([c0, c1, c2, c3, c4, c5, c6, c7, c8, c9, c10].drop 5).take (Tryz.prog.cellsOf 9)) = some x5 := hf 5 _ rfl
      have h6 : DataW.trod enc Tryz.prog w base spare held m 9 (([c0, c1, c2, c3, c4, c5, c6, c7, c8, c9, c10].drop 6).take (Tryz.prog.cellsOf 9)) = some x6 := hf 6 _ rfl
      have h7 : DataW.trod enc Tryz.prog w base spare held m 3 (([c0, c1, c2, c3, c4, c5, c6, c7, c8, c9, c10].drop 7).take (Tryz.prog.cellsOf 3)) = some x7 := hf 7 _ rfl
      have h8 : DataW.trod enc Tryz.prog w base spare held m 3 (([c0, c1, c2, c3, c4, c5, c6, c7, c8, c9, c10].drop 8).take (Tryz.prog.cellsOf 3)) = some x8 := hf 8 _ rfl
      have h9 : DataW.trod enc Tryz.prog w base spare held m 3 (([c0, c1, c2, c3, c4, c5, c6, c7, c8, c9, c10].drop 9).take (Tryz.prog.cellsOf 3)) = some x9 := hf 9 _ rfl
      have h10 : DataW.trod enc Tryz.prog w base spare held m 34 (([c0, c1, c2, c3, c4, c5, c6, c7, c8, c9, c10].drop 10).take (Tryz.prog.cellsOf 34)) = some x10 := hf 10 _ rfl
      rw [cells_int] at h0
      rw [cells_int] at h1
      rw [cells_int] at h2
      rw [cells_int] at h3
      rw [cells_str] at h4
      rw [cells_str] at h5
      rw [cells_str] at h6
      rw [cells_int] at h7
      rw [cells_int] at h8
      rw [cells_int] at h9
      rw [cells_strs] at h10
      obtain ⟨i0, rfl, w0, e0⟩ := rd_int h0
      obtain ⟨i1, rfl, w1, e1⟩ := rd_int h1
      obtain ⟨i2, rfl, w2, e2⟩ := rd_int h2
      obtain ⟨i3, rfl, w3, e3⟩ := rd_int h3
      obtain ⟨s4, rfl, e4⟩ := rd_str h4
      obtain ⟨s5, rfl, e5⟩ := rd_str h5
      obtain ⟨s6, rfl, e6⟩ := rd_str h6
      obtain ⟨i7, rfl, w7, e7⟩ := rd_int h7
      obtain ⟨i8, rfl, w8, e8⟩ := rd_int h8
      obtain ⟨i9, rfl, w9, e9⟩ := rd_int h9
      obtain ⟨A, k, cap, l, rfl, hl, hc, hR, hB⟩ := rd_strs h10
      subst hl
      refine ⟨(⟨i0, i1, i2, i3, s4, s5, s6, i7, i8, i9, l⟩, (A, cap)), rfl, ⟨w0, w1, w2, w3, w7, w8, w9⟩, ⟨hc, hR⟩, fun B hq => ?_⟩
      have p4 := fun q hq' => hq q (weight_part Tryz.underlying36 (j := 4) (d := x4.1) rfl rfl q hq')
      have p5 := fun q hq' => hq q (weight_part Tryz.underlying36 (j := 5) (d := x5.1) rfl rfl q hq')
      have p6 := fun q hq' => hq q (weight_part Tryz.underlying36 (j := 6) (d := x6.1) rfl rfl q hq')
      have p10 := fun q hq' => hq q (weight_part Tryz.underlying36 (j := 10) (d := x10.1) rfl rfl q hq')
      rw [e4] at p4
      rw [e5] at p5
      rw [e6] at p6
      exact ⟨weight_str p4, weight_str p5, weight_str p6, (hB B p10).1, (hB B p10).2⟩

end Go.Proofs.YtkgkhcfonlhphaaGreatDoor
