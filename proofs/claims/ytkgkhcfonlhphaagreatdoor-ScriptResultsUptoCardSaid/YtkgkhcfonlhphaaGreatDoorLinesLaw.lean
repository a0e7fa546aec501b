/- Plain and small parts for the law ScriptLines: its text, its lines, its small at any operation. -/
import Derived.Test.YtkgkhcfonlhphaaGreatDoorLawRes
namespace Go.Proofs.YtkgkhcfonlhphaaGreatDoor
open Go.RowKit

def lineT (note : List UInt8) (o : OpV) : List UInt8 := 35 :: (note ++ 10 :: 10 :: (showL o ++ [10]))
def textT (note : List UInt8) (os : List OpV) : List UInt8 := os.flatMap (lineT note)
def itemsT (note : List UInt8) (os : List OpV) : List Item := os.flatMap fun o => [(35 :: note, none), ([], none), (showL o, some o)]

theorem lines_snoc : ∀ (ls : List (List UInt8)) (e : List UInt8), linesL (ls ++ [e]) = ls.flatMap (· ++ [10]) ++ e
  | [], e => rfl
  | [a], e => by simp [linesL]
  | a :: b :: r, e => by
    have ih := lines_snoc (b :: r) e
    show a ++ 10 :: linesL (b :: r ++ [e]) = _
    rw [ih]
    simp

theorem items_text (note : List UInt8) (os : List OpV) : ((itemsT note os).map (·.1)).flatMap (· ++ [10]) = textT note os := by
  induction os with
  | nil => rfl
  | cons o os ih =>
    unfold itemsT textT at *
    rw [List.flatMap_cons, List.map_append, List.flatMap_append, ih, List.flatMap_cons]
    simp [lineT]

theorem text_lines (note : List UInt8) (os : List OpV) : linesL (linesOf (itemsT note os ++ [([], none)]) false) = textT note os := by
  unfold linesOf
  rw [List.map_append, if_neg (by decide), List.append_nil]
  show linesL ((itemsT note os).map (·.1) ++ [[]]) = _
  rw [lines_snoc, items_text, List.append_nil]

theorem text_lines_nothing (note : List UInt8) (os : List OpV) : linesL (linesOf (itemsT note os) true) = textT note os ++ nothingL := by
  unfold linesOf
  rw [if_pos rfl, lines_snoc, items_text]

theorem itemsT_length (note : List UInt8) (os : List OpV) : (itemsT note os).length = 3 * os.length := by
  induction os with
  | nil => rfl
  | cons o os ih =>
    unfold itemsT at *
    rw [List.flatMap_cons, List.length_append, ih]
    simp
    omega

theorem itemsT_ops (note : List UInt8) (os : List OpV) : opsOf (itemsT note os) = os := by
  induction os with
  | nil => rfl
  | cons o os ih =>
    unfold opsOf itemsT at *
    rw [List.flatMap_cons, List.filterMap_append, ih]
    rfl

theorem itemsT_ops2 (note : List UInt8) (os : List OpV) : opsOf (itemsT note os ++ [([], none)]) = os := by
  have := itemsT_ops note os
  unfold opsOf at *
  rw [List.filterMap_append, this]
  simp

theorem itemsT_ok (note : List UInt8) (os : List OpV) (hn : ∀ b ∈ note, b ≠ 10) (ho : ∀ o ∈ os, o.ok ∧ named o) : ∀ x ∈ itemsT note os, ItemOk x := by
  intro x hx
  obtain ⟨o, hom, hx⟩ := List.mem_flatMap.1 hx
  simp only [List.mem_cons, List.not_mem_nil, or_false] at hx
  rcases hx with rfl | rfl | rfl
  · refine .inl ⟨rfl, .inr ⟨note, rfl⟩, fun b hb => ?_⟩
    rcases List.mem_cons.1 hb with rfl | hb
    · decide
    · exact hn b hb
  · exact .inl ⟨rfl, .inl rfl, fun b hb => by cases hb⟩
  · exact .inr ⟨o, rfl, (ho o hom).1, (ho o hom).2, rfl⟩

theorem showL_length (o : OpV) (ho : o.ok) : (showL o).length ≤ 400000 := by
  unfold showL
  split
  · exact Nat.zero_le _
  · exact showW_length o ho

theorem textT_length (note : List UInt8) (hn : note.length ≤ 100) (os : List OpV) (ho : ∀ o ∈ os, o.ok) : (textT note os).length ≤ os.length * 400200 :=
  flat_length_mem (lineT note) 400200 os fun o hom => by
    have := showL_length o (ho o hom)
    unfold lineT
    simp only [List.length_cons, List.length_append, List.length_nil]
    omega

theorem textT_step (note : List UInt8) (os : List OpV) (k : Nat) (o : OpV) (h : os[k]? = some o) : textT note (os.take (k + 1)) = textT note (os.take k) ++ lineT note o := take_flat_succ _ _ _ _ h

/-- the numbers of an operation are such -/
structure OpV.ints (o : OpV) : Prop where
  kind : I64 o.kind
  level : I64 o.level
  session : I64 o.session
  snap : I64 o.snap
  label : I64 o.label
  dst : I64 o.dst
  n : I64 o.n
/-- .. and its texts -/
structure OpV.sized (o : OpV) : Prop where
  bucket : o.bucket.size ≤ 140737488355328
  key : o.key.size ≤ 140737488355328
  value : o.value.size ≤ 140737488355328
  keepN : o.keep.length ≤ 140737488355328
  keep : ∀ k ∈ o.keep, k.size ≤ 140737488355328

theorem keepSum_mem {l : List ByteArray} {k : ByteArray} (h : k ∈ l) : k.size ≤ keepSum l := by
  unfold keepSum
  induction l with
  | nil => cases h
  | cons a l ih =>
    rw [List.map_cons, List.sum_cons]
    rcases List.mem_cons.1 h with rfl | h
    · omega
    · have := ih h
      omega

theorem keepSum_upto {l : List ByteArray} {m : Nat} (h : ∀ k ∈ l, k.size ≤ m) : keepSum l ≤ l.length * m := by
  unfold keepSum
  induction l with
  | nil => simp
  | cons a l ih =>
    rw [List.map_cons, List.sum_cons, List.length_cons, Nat.succ_mul]
    have := ih (fun k hk => h k (by simp [hk]))
    have := h a (by simp)
    omega

theorem small_ok (o : OpV) (hi : o.ints) (h : smallV o = true) : o.ok := by
  unfold smallV at h
  simp only [Bool.and_eq_true, decide_eq_true_eq] at h
  exact ⟨hi.kind, hi.level, hi.session, hi.snap, hi.label, hi.dst, hi.n, by omega, by omega, by omega, h.2, fun k hk => by have := keepSum_mem hk; omega⟩

set_option maxHeartbeats 1000000 in
set_option maxRecDepth 100000 in
theorem law_small_many (o : OpV) (A : Option Addr) (c : Nat) (w : World) (hA : KeepAt w o A c) (hb1 : o.bucket.size ≤ 140737488355328) (hb2 : o.key.size ≤ 140737488355328) (hb3 : o.value.size ≤ 140737488355328) (hks : ∀ k ∈ o.keep, k.size ≤ 140737488355328)
    (hL : 70 < o.keep.length) (hL2 : o.keep.length ≤ 140737488355328) :
    Calls Tryz.prog 8 #[.agg (o.cells A c)] w fun e w' => e = .returned (.bool false) ∧ Below w.heap.size w w' := by
  obtain ⟨kind, level, session, snap, bucket, key, value, label, dst, n, keep⟩ := o
  simp only at hb1 hb2 hb3 hks hL hL2
  have HA := Lib.hid hA
  have hc1 : keep.length ≤ c := hA.1
  clear hA
  unfold OpV.cells
  simp only
  go_enter Tryz.func8, Tryz.ntmps8
  go_wp2_with fail
  obtain ⟨W, hW⟩ : ∃ W, w.alloc (OpV.box ⟨kind, level, session, snap, bucket, key, value, label, dst, n, keep⟩ A c) = W := ⟨_, rfl⟩
  have hbW : Below w.heap.size w W := by rw [← hW]; exact (Below.refl _ _).alloc (Nat.le_refl _) _
  have hszW : w.heap.size < W.heap.size := by rw [← hW]; simp
  have k1 : W.cell? ⟨w.heap.size, 10, none⟩ = some (.slice A keep.length c) := by rw [← hW]; simp [OpV.box, OpV.cells]
  go_loopw [3, 4] (fun a i wr => ∃ k : Nat, k ≤ keep.length ∧ i = .int .i64 (k : Int) ∧ (∃ x : Int, a = .int .i64 x) ∧ Below W.heap.size W wr) (fun _ i _ => keep.length - (intOf i).toNat)
  case atStart =>
    refine ⟨0, by omega, rfl, ⟨_, rfl⟩, ?_⟩
    rw [← hW]
    exact Below.refl _ _
  case round =>
    obtain ⟨k, hk, rfl, ⟨x, rfl⟩, hb⟩ := hrel
    have c1 := (hb.cell (p := ⟨w.heap.size, 10, none⟩) hszW).trans k1
    have hbw : Below w.heap.size w wr := hbW.trans (hb.mono (by omega))
    have HB := Lib.hid (And.intro hb hbw)
    clear hb hbw
    by_cases hlt : k < keep.length
    · obtain ⟨b, f, rfl, hbl, hcell⟩ := HA.out.2.2 (show 0 < keep.length by omega)
      have hrk : keep[k]? = some keep[k] := List.getElem?_eq_getElem hlt
      have hsz := hks _ (List.getElem_mem hlt)
      generalize keep[k] = s at *
      have e1 : wr.cell? ⟨b, f + k, none⟩ = some (.string s) := by
        rw [HB.out.2.cell (p := ⟨b, f + k, none⟩) hbl]
        exact hcell k _ (by rw [List.getElem?_map, hrk]; rfl)
      clear hcell hrk k1
      go_wp2_with fail
      exact ⟨⟨k + 1, by omega, by go_num, ⟨_, rfl⟩, HB.out.1⟩, by simp [intOf]; omega⟩
    · have hd : decide ((keep.length : Int) ≤ 70) = false := by simp; omega
      by_cases h1 : x ≤ 1000
      · go_wp2_with fail
        go_ret
        exact ⟨rfl, HB.out.2⟩
      · go_wp2_with fail
        go_ret
        exact ⟨rfl, HB.out.2⟩

/-- the law's small at any operation -/
theorem law_small_any (o : OpV) (hs : o.sized) (A : Option Addr) (c : Nat) (w : World) (hA : KeepAt w o A c) :
    Calls Tryz.prog 8 #[.agg (o.cells A c)] w fun e w' => e = .returned (.bool (smallV o)) ∧ Below w.heap.size w w' := by
  rcases Nat.lt_or_ge 70 o.keep.length with h | h
  · have e : smallV o = false := by
      unfold smallV
      rw [decide_eq_false (show ¬ o.keep.length ≤ 70 by omega), Bool.and_false]
    rw [e]
    exact law_small_many o A c w hA hs.bucket hs.key hs.value hs.keep h hs.keepN
  · have h1 := keepSum_upto hs.keep
    have h2 : o.keep.length * 140737488355328 ≤ 70 * 140737488355328 := Nat.mul_le_mul_right _ h
    exact law_small o A c w hA (by have := hs.bucket; have := hs.key; have := hs.value; omega) (by have := hs.keepN; omega)

end Go.Proofs.YtkgkhcfonlhphaaGreatDoor
