/- The contract of the reference's Result. Conditions: 60 rows and 60 records at most, each text at most 2^20 bytes long. -/
import Derived.Test.YtkgkhcfonlhphaaGreatDoorRefQuote
import Derived.Test.YtkgkhcfonlhphaaGreatDoorNumber
import Derived.Test.YtkgkhcfonlhphaaGreatDoorReads
import Derived.Deep.DeepCutAuto
namespace Go.Proofs.YtkgkhcfonlhphaaGreatDoor
open Go.RowKit

structure RowV where
  key : ByteArray
  label : Int
  val : ByteArray
structure RecV where
  actor : Int
  src : Int
  dst : Int
  bucket : ByteArray
  key : ByteArray
  digest : Nat
structure ResV where
  E : Int
  N : Int
  rows : List RowV
  live : Int
  free : Int
  wait : Int
  high : Int
  recs : List RecV

def rowCells (r : RowV) : List Value := [.string r.key, .int .i64 r.label, .string r.val]
def recCells (r : RecV) : List Value := [.int .i64 r.actor, .int .i64 r.src, .int .i64 r.dst, .string r.bucket, .string r.key, .int .u32 r.digest]
def I64 (n : Int) : Prop := -9223372036854775808 ≤ n ∧ n ≤ 9223372036854775807
def RowV.ok (r : RowV) : Prop := r.key.size ≤ 1048576 ∧ I64 r.label ∧ r.val.size ≤ 1048576
def RecV.ok (r : RecV) : Prop := I64 r.actor ∧ I64 r.src ∧ I64 r.dst ∧ r.bucket.size ≤ 1048576 ∧ r.key.size ≤ 1048576 ∧ r.digest < 4294967296
def ResV.ok (x : ResV) : Prop := I64 x.E ∧ I64 x.N ∧ (∀ r ∈ x.rows, r.ok) ∧ x.rows.length ≤ 60 ∧ I64 x.live ∧ I64 x.free ∧ I64 x.wait ∧ I64 x.high ∧ (∀ r ∈ x.recs, r.ok) ∧ x.recs.length ≤ 60

def rowL (r : RowV) : List UInt8 := 32 :: (Lib.itoa r.label ++ 58 :: (quoteL r.key.data.toList ++ 61 :: quoteL r.val.data.toList))
def recL (r : RecV) : List UInt8 := 32 :: (Lib.itoa r.actor ++ 58 :: (Lib.itoa r.src ++ 62 :: (Lib.itoa r.dst ++ 58 :: (quoteL r.bucket.data.toList ++ 47 :: (quoteL r.key.data.toList ++ 35 :: Lib.itoa r.digest)))))
def statL (x : ResV) : List UInt8 := if x.live = 0 ∧ x.free = 0 ∧ x.wait = 0 ∧ x.high = 0 then [] else
  [32, 108, 105, 118, 101, 61] ++ Lib.itoa x.live ++ [32, 102, 114, 101, 101, 61] ++ Lib.itoa x.free ++ [32, 119, 97, 105, 116, 61] ++ Lib.itoa x.wait ++ [32, 104, 105, 103, 104, 61] ++ Lib.itoa x.high
def headL (x : ResV) : List UInt8 := [101, 61] ++ Lib.itoa x.E ++ numL [110] x.N
def resultL (x : ResV) : List UInt8 := headL x ++ x.rows.flatMap rowL ++ statL x ++ x.recs.flatMap recL

/-- where a result lies: its two slices -/
def ResAt (w : World) (x : ResV) (A : Option Addr) (n c : Nat) (A2 : Option Addr) (n2 c2 : Nat) : Prop :=
  n = x.rows.length ∧ n2 = x.recs.length ∧ n ≤ c ∧ n2 ≤ c2 ∧ Reads w w.heap.size 3 A n (x.rows.flatMap rowCells) ∧ Reads w w.heap.size 6 A2 n2 (x.recs.flatMap recCells)
def resVal (x : ResV) (A : Option Addr) (n c : Nat) (A2 : Option Addr) (n2 c2 : Nat) : Value :=
  .agg #[.int .i64 x.E, .int .i64 x.N, .slice A n c, .int .i64 x.live, .int .i64 x.free, .int .i64 x.wait, .int .i64 x.high, .slice A2 n2 c2]

set_option maxHeartbeats 1000000 in
set_option maxRecDepth 100000 in
theorem ref_number (name : ByteArray) (n : Int) (h0 : -9223372036854775808 ≤ n) (h1 : n ≤ 9223372036854775807) (hn : name.size ≤ 1000) (w : World) :
    Calls Tryz.prog 21 #[.string name, .int .i64 n] w fun e w' => e = .returned (.string ⟨(numL name.data.toList n).toArray⟩) ∧ Below w.heap.size w w' := by
  have hl := itoa_length n h0 h1
  by_cases hz : n = 0
  · have hz1 : (n == 0) = true := by simpa using hz
    go_enter Tryz.func21, Tryz.ntmps21
    go_wp2
    go_ret
    exact ⟨ret_str (by unfold numL; rw [if_pos hz]), Below.refl _ _⟩
  · have hz1 : (n == 0) = false := by simpa using hz
    go_enter Tryz.func21, Tryz.ntmps21
    go_wp2_with (go_at_call 20; refine (ref_Number n h0 h1 _).mono ?_; rintro e w' ⟨rfl, hb⟩)
    go_ret
    refine ⟨ret_str ?_, hb⟩
    unfold numL
    rw [if_neg hz, ByteArray.ext_iff]
    simp


def resBox (x : ResV) (A : Option Addr) (n c : Nat) (A2 : Option Addr) (n2 c2 : Nat) : Obj :=
  .cells #[.int .i64 x.E, .int .i64 x.N, .slice A n c, .int .i64 x.live, .int .i64 x.free, .int .i64 x.wait, .int .i64 x.high, .slice A2 n2 c2] 28

def zeroStats (live free wait high : Int) : Bool := decide (live = 0 ∧ free = 0 ∧ wait = 0 ∧ high = 0)
theorem stats_ne (live free wait high : Int) (W : World) : (binOp .neq 25 (.agg #[.int .i64 live, .int .i64 free, .int .i64 wait, .int .i64 high]) (.agg #[.int .i64 0, .int .i64 0, .int .i64 0, .int .i64 0])).run Tryz.prog W = .ok (.bool (!zeroStats live free wait high)) W := by
  go_simp
  by_cases h1 : live = 0 <;> by_cases h2 : free = 0 <;> by_cases h3 : wait = 0 <;> by_cases h4 : high = 0 <;> simp [zeroStats, *]

theorem number_of4 {a b c d n : Int} (h1 : I64 a) (h2 : I64 b) (h3 : I64 c) (h4 : I64 d) (hn : n = a ∨ n = b ∨ n = c ∨ n = d) (w : World) :
    Calls Tryz.prog 20 #[.int .i64 n] w fun e w' => e = .returned (.string ⟨(Lib.itoa n).toArray⟩) ∧ Below w.heap.size w w' := by
  have : I64 n := by rcases hn with rfl | rfl | rfl | rfl <;> assumption
  exact ref_Number n this.1 this.2 w

theorem quote_len (s : ByteArray) : (quoteL s.data.toList).length ≤ 3 * s.size + 2 := by
  have := quoteL_length s.data.toList
  simp only [Array.length_toList, ByteArray.size_data] at this
  exact this

theorem rowL_length (r : RowV) (h : r.ok) : (rowL r).length ≤ 8000000 := by
  obtain ⟨h1, h2, h3⟩ := h
  have := itoa_length r.label h2.1 h2.2
  have := quoteL_length r.key.data.toList
  have := quoteL_length r.val.data.toList
  simp only [rowL, List.length_cons, List.length_append] at *
  simp only [Array.length_toList, ByteArray.size_data] at *
  omega

theorem recL_length (r : RecV) (h : r.ok) : (recL r).length ≤ 8000000 := by
  obtain ⟨h1, h2, h3, h4, h5, h6⟩ := h
  have := itoa_length r.actor h1.1 h1.2
  have := itoa_length r.src h2.1 h2.2
  have := itoa_length r.dst h3.1 h3.2
  have := itoa_length (r.digest : Int) (by omega) (by omega)
  have := quoteL_length r.bucket.data.toList
  have := quoteL_length r.key.data.toList
  simp only [recL, List.length_cons, List.length_append] at *
  simp only [Array.length_toList, ByteArray.size_data] at *
  omega

set_option maxHeartbeats 1000000 in
set_option maxRecDepth 100000 in
theorem ref_Result (x : ResV) (A : Option Addr) (n c : Nat) (A2 : Option Addr) (n2 c2 : Nat) (w : World) (hx : x.ok) (hA : ResAt w x A n c A2 n2 c2) :
    Calls Tryz.prog 7 #[resVal x A n c A2 n2 c2] w fun e w' => e = .returned (.string ⟨(resultL x).toArray⟩) ∧ Below w.heap.size w w' := by
  obtain ⟨E, N, rows, live, free, wait, high, recs⟩ := x
  obtain ⟨hE, hN, hrows, hrl, hlive, hfree, hwait, hhigh, hrecs, hrecl⟩ := hx
  obtain ⟨hn, hn2, hnc, hnc2, hR, hR2⟩ := hA
  simp only at *
  unfold resVal
  simp only
  have hle := itoa_length E hE.1 hE.2
  have hNl : (numL [110] N).length ≤ 30 := by
    have := itoa_length N hN.1 hN.2
    unfold numL
    split <;> simp; omega
  have hrn := hrl
  have hrow : ∀ r ∈ rows, (rowL r).length ≤ 8000000 := fun r hr => rowL_length r (hrows r hr)
  have hrec : ∀ r ∈ recs, (recL r).length ≤ 8000000 := fun r hr => recL_length r (hrecs r hr)
  go_enter Tryz.func7, Tryz.ntmps7
  go_wp2_with fail
  refine wp_region_grow (by kernel_rfl) (by kernel_rfl) ?_
  repeat (refine wpQuiet_step (fun K hK => ?_); go_simp; first | (refine hK _ ?_; clear hK K) | (apply Exists.intro; refine ⟨fun w' hw' => ?_, hK _ ?_⟩; (first | (rw [if_neg (by omega)]; exact ⟨rfl, rfl⟩) | (go_at_call 20; refine (ref_Number _ hE.1 hE.2 _).mono ?_; rintro e w'' ⟨rfl, hb⟩; exact ⟨rfl, hw'.trans' hb⟩) | (go_at_call 21; refine (ref_number _ _ hN.1 hN.2 (by decide) _).mono ?_; rintro e w'' ⟨rfl, hb⟩; exact ⟨rfl, hw'.trans' hb⟩) | (obtain ⟨hc, hf⟩ := bcell hw'; go_simp; first | exact ⟨rfl, rfl⟩ | rfl)); clear hK K))
  refine wpQuiet_nil ?_
  intro w1 hw1
  go_wp2_with fail
  go_loopw [3, 4] (fun s i wr => ∃ (k : Nat) (T : List UInt8), k ≤ rows.length ∧ i = .int .i64 (k : Int) ∧ s = .string ⟨T.toArray⟩ ∧ T = headL ⟨E, N, rows, live, free, wait, high, recs⟩ ++ (rows.take k).flatMap rowL ∧ Gr (w.alloc (resBox ⟨E, N, rows, live, free, wait, high, recs⟩ A rows.length c A2 recs.length c2)) wr) (fun _ i _ => rows.length - (intOf i).toNat)
  case atStart => exact ⟨0, _, by omega, rfl, rfl, by simp [headL], hw1⟩
  case round =>
    obtain ⟨k, T, hk, rfl, rfl, hT, hg⟩ := hrel
    have hTl : T.length ≤ 60 + 60 * 8000000 := by
      have := flat_length_mem rowL 8000000 (rows.take k) (fun r hr => hrow r (List.mem_of_mem_take hr))
      have h2 : (rows.take k).length ≤ 60 := by rw [List.length_take]; omega
      have h3 : (rows.take k).length * 8000000 ≤ 60 * 8000000 := Nat.mul_le_mul_right _ h2
      rw [hT, List.length_append]
      simp only [headL, List.length_append, List.length_cons, List.length_nil]
      omega
    have HT := Lib.hid hT
    clear hT
    have hws : w.heap.size < wr.heap.size := by have := hg.size; simp at this; omega
    have cc2 : wr.cell? ⟨w.heap.size, 2, none⟩ = some (.slice A rows.length c) := by rw [hg.cell (p := ⟨w.heap.size, 2, none⟩) (by simp)]; simp [resBox]
    by_cases hlt : k < rows.length
    · obtain ⟨b, o, rfl, hb, hcell⟩ := hR.2 (by omega)
      have hrk : rows[k]? = some rows[k] := List.getElem?_eq_getElem hlt
      have hrm : rows[k] ∈ rows := List.getElem_mem hlt
      generalize rows[k] = r at *
      obtain ⟨key, lab, val⟩ := r
      have hro := hrows _ hrm
      obtain ⟨hk1, hk2, hk3⟩ := hro
      simp only at hk1 hk2 hk3
      have hil := itoa_length lab hk2.1 hk2.2
      have hql1 := quote_len key
      have hql2 := quote_len val
      have e0 : wr.cell? ⟨b, o + k * 3, none⟩ = some (.string key) := by
        rw [hg.cell (p := ⟨b, o + k * 3, none⟩) (by simp; omega), World.cell?_alloc_lt _ _ _ hb]
        exact hcell _ _ (by have := flat_get rowCells 3 (fun _ => rfl) rows k _ 0 hrk (by omega); simpa [rowCells] using this)
      have e1 : wr.cell? ⟨b, o + k * 3 + 1, none⟩ = some (.int .i64 lab) := by
        rw [hg.cell (p := ⟨b, o + k * 3 + 1, none⟩) (by simp; omega), World.cell?_alloc_lt _ _ _ hb]
        exact hcell _ _ (by have := flat_get rowCells 3 (fun _ => rfl) rows k _ 1 hrk (by omega); simpa [rowCells] using this)
      have e2 : wr.cell? ⟨b, o + k * 3 + 2, none⟩ = some (.string val) := by
        rw [hg.cell (p := ⟨b, o + k * 3 + 2, none⟩) (by simp; omega), World.cell?_alloc_lt _ _ _ hb]
        exact hcell _ _ (by have := flat_get rowCells 3 (fun _ => rfl) rows k _ 2 hrk (by omega); simpa [rowCells] using this)
      go_wp2_with fail
      refine wp_region_grow (by kernel_rfl) (by kernel_rfl) ?_
      repeat (refine wpQuiet_step (fun K hK => ?_); go_simp; first | (refine hK _ ?_; clear hK K) | (apply Exists.intro; refine ⟨fun w' hw' => ?_, hK _ ?_⟩; (first | (rw [if_neg (by omega)]; exact ⟨rfl, rfl⟩) | (go_at_call 20; refine (ref_Number _ hk2.1 hk2.2 _).mono ?_; rintro e w'' ⟨rfl, hb⟩; exact ⟨rfl, hw'.trans' hb⟩) | (go_at_call 22; refine (ref_Quote _ _ (by omega)).mono ?_; rintro e w'' ⟨rfl, hb⟩; exact ⟨rfl, hw'.trans' hb⟩) | (obtain ⟨hc, hf⟩ := bcell hw'; go_simp; first | exact ⟨rfl, rfl⟩ | rfl)); clear hK K))
      refine wpQuiet_nil ?_
      intro w2 hw2
      go_wp2
      refine ⟨⟨k + 1, T ++ rowL ⟨key, lab, val⟩, by omega, by go_num, ?_, ?_, ?_⟩, by simp [intOf]; omega⟩
      · simp only [data_app]
        simp [rowL]
      · rw [HT.out, take_flat_succ rowL rows k _ hrk, List.append_assoc]
      · exact (hg.alloc hg.size _).trans (hw2.mono (by have := hg.size; simp at this ⊢; omega))
    · have hkk : rows.take k = rows := List.take_of_length_le (by omega)
      have ht2 : T = headL ⟨E, N, rows, live, free, wait, high, recs⟩ ++ rows.flatMap rowL := by rw [HT.out, hkk]
      have HT2 := Lib.hid ht2
      have c3 : wr.cell? ⟨w.heap.size, 3, none⟩ = some (.int .i64 live) := by rw [hg.cell (p := ⟨w.heap.size, 3, none⟩) (by simp)]; simp [resBox]
      have c4 : wr.cell? ⟨w.heap.size, 4, none⟩ = some (.int .i64 free) := by rw [hg.cell (p := ⟨w.heap.size, 4, none⟩) (by simp)]; simp [resBox]
      have c5 : wr.cell? ⟨w.heap.size, 5, none⟩ = some (.int .i64 wait) := by rw [hg.cell (p := ⟨w.heap.size, 5, none⟩) (by simp)]; simp [resBox]
      have c6 : wr.cell? ⟨w.heap.size, 6, none⟩ = some (.int .i64 high) := by rw [hg.cell (p := ⟨w.heap.size, 6, none⟩) (by simp)]; simp [resBox]
      clear ht2 HT hkk
      have hne := stats_ne live free wait high
      go_upto_if 47 with (fail)
      go_cut [3] (fun s wc => ∃ T2 : List UInt8, s = .string ⟨T2.toArray⟩ ∧ T2 = T ++ statL ⟨E, N, rows, live, free, wait, high, recs⟩ ∧ Gr (w.alloc (resBox ⟨E, N, rows, live, free, wait, high, recs⟩ A rows.length c A2 recs.length c2)) wc)
      case first =>
        cases hz : zeroStats live free wait high with
        | true =>
          have hz2 : (!zeroStats live free wait high) = false := by rw [hz]; rfl
          have Hz := Lib.hid hz
          clear hz
          go_wp2_with fail
          go_meet
          have hz3 := of_decide_eq_true Hz.out
          exact ⟨T, rfl, by simp [statL, hz3], hg⟩
        | false =>
          have hz2 : (!zeroStats live free wait high) = true := by rw [hz]; rfl
          have Hz := Lib.hid hz
          clear hz
          have h1 := itoa_length live hlive.1 hlive.2
          have h2 := itoa_length free hfree.1 hfree.2
          have h3 := itoa_length wait hwait.1 hwait.2
          have h4 := itoa_length high hhigh.1 hhigh.2
          go_wp2_with fail
          refine wp_region_grow (by kernel_rfl) (by kernel_rfl) ?_
          repeat (refine wpQuiet_step (fun K hK => ?_); go_simp; first | (refine hK _ ?_; clear hK K) | (apply Exists.intro; refine ⟨fun w' hw' => ?_, hK _ ?_⟩; (first | (rw [if_neg (by omega)]; exact ⟨rfl, rfl⟩) | (go_at_call 20; refine (number_of4 hlive hfree hwait hhigh (by simp) _).mono ?_; rintro e w'' ⟨rfl, hb⟩; exact ⟨rfl, hw'.trans' hb⟩) | (obtain ⟨hc, hf⟩ := bcell hw'; go_simp; first | exact ⟨rfl, rfl⟩ | rfl)); clear hK K))
          refine wpQuiet_nil ?_
          intro w2 hw2
          go_wp2_with fail
          go_meet
          have hz3 := of_decide_eq_false Hz.out
          refine ⟨_, ?_, rfl, hg.trans' hw2⟩
          simp only [data_app, statL]
          rw [if_neg hz3]
      case rest =>
        obtain ⟨T2, rfl, hT2, hg2⟩ := hcut
        clear c3 c4 c5 c6 cc2 hne hlt hws
        have hT2l : T2.length ≤ 600000000 := by
          have : (statL ⟨E, N, rows, live, free, wait, high, recs⟩).length ≤ 200 := by
            have h1 := itoa_length live hlive.1 hlive.2
            have h2 := itoa_length free hfree.1 hfree.2
            have h3 := itoa_length wait hwait.1 hwait.2
            have h4 := itoa_length high hhigh.1 hhigh.2
            unfold statL
            split
            · simp
            · simp only [List.length_append, List.length_cons, List.length_nil]; omega
          rw [hT2, List.length_append]
          omega
        have HTt := Lib.hid hT2
        clear hT2 hTl
        go_wp2_with fail
        go_loopw [3, 6] (fun s i wr => ∃ (k : Nat) (T : List UInt8), k ≤ recs.length ∧ i = .int .i64 (k : Int) ∧ s = .string ⟨T.toArray⟩ ∧ T = T2 ++ (recs.take k).flatMap recL ∧ Gr (w.alloc (resBox ⟨E, N, rows, live, free, wait, high, recs⟩ A rows.length c A2 recs.length c2)) wr) (fun _ i _ => recs.length - (intOf i).toNat)
        case atStart => exact ⟨0, T2, by omega, rfl, rfl, by simp, hg2⟩
        case round =>
          clear hg2 hg
          obtain ⟨k, U, hk, rfl, rfl, hU, hg⟩ := hrel
          have hUl : U.length ≤ 600000000 + 60 * 8000000 := by
            have := flat_length_mem recL 8000000 (recs.take k) (fun r hr => hrec r (List.mem_of_mem_take hr))
            have h2 : (recs.take k).length ≤ 60 := by rw [List.length_take]; omega
            have h3 : (recs.take k).length * 8000000 ≤ 60 * 8000000 := Nat.mul_le_mul_right _ h2
            rw [hU, List.length_append]
            omega
          have HU := Lib.hid hU
          clear hU
          have hws : w.heap.size < wr.heap.size := by have := hg.size; simp at this; omega
          have c7 : wr.cell? ⟨w.heap.size, 7, none⟩ = some (.slice A2 recs.length c2) := by rw [hg.cell (p := ⟨w.heap.size, 7, none⟩) (by simp)]; simp [resBox]
          by_cases hlt : k < recs.length
          · obtain ⟨b, o, rfl, hb, hcell⟩ := hR2.2 (by omega)
            have hrk : recs[k]? = some recs[k] := List.getElem?_eq_getElem hlt
            have hrm : recs[k] ∈ recs := List.getElem_mem hlt
            generalize recs[k] = r at *
            obtain ⟨actor, src, dst, bucket, key, digest⟩ := r
            obtain ⟨ha1, ha2, ha3, ha4, ha5, ha6⟩ := hrecs _ hrm
            simp only at ha1 ha2 ha3 ha4 ha5 ha6
            have hdg : I64 (digest : Int) := ⟨by omega, by omega⟩
            have l1 := itoa_length actor ha1.1 ha1.2
            have l2 := itoa_length src ha2.1 ha2.2
            have l3 := itoa_length dst ha3.1 ha3.2
            have l4 := itoa_length (digest : Int) hdg.1 hdg.2
            have q1 := quote_len bucket
            have q2 := quote_len key
            have hw64 : IntKind.i64.wrap (digest : Int) = digest := IntWalk.i64_in _ (by omega)
            have get : ∀ j v, j < 6 → (recCells ⟨actor, src, dst, bucket, key, digest⟩)[j]? = some v → wr.cell? ⟨b, o + k * 6 + j, none⟩ = some v := by
              intro j v hj hv
              rw [hg.cell (p := ⟨b, o + k * 6 + j, none⟩) (by simp; omega), World.cell?_alloc_lt _ _ _ hb, Nat.add_assoc]
              exact hcell _ _ (by rw [flat_get recCells 6 (fun _ => rfl) recs k _ j hrk hj]; exact hv)
            have e0 : wr.cell? ⟨b, o + k * 6, none⟩ = some (.int .i64 actor) := get 0 _ (by omega) rfl
            have e1 := get 1 _ (by omega) rfl
            have e2 := get 2 _ (by omega) rfl
            have e3 := get 3 _ (by omega) rfl
            have e4 := get 4 _ (by omega) rfl
            have e5 := get 5 _ (by omega) rfl
            clear get
            go_wp2_with fail
            refine wp_region_grow (by kernel_rfl) (by kernel_rfl) ?_
            repeat (refine wpQuiet_step (fun K hK => ?_); go_simp; first | (refine hK _ ?_; clear hK K) | (apply Exists.intro; refine ⟨fun w' hw' => ?_, hK _ ?_⟩; (first | (rw [if_neg (by omega)]; exact ⟨rfl, rfl⟩) | (go_at_call 20; refine (number_of4 ha1 ha2 ha3 hdg (by simp) _).mono ?_; rintro e w'' ⟨rfl, hb⟩; exact ⟨rfl, hw'.trans' hb⟩) | (go_at_call 22; refine (ref_Quote _ _ (by omega)).mono ?_; rintro e w'' ⟨rfl, hb⟩; exact ⟨rfl, hw'.trans' hb⟩) | (obtain ⟨hc, hf⟩ := bcell hw'; go_simp; first | exact ⟨rfl, rfl⟩ | rfl)); clear hK K))
            refine wpQuiet_nil ?_
            intro w2 hw2
            go_wp2
            refine ⟨⟨k + 1, U ++ recL ⟨actor, src, dst, bucket, key, digest⟩, by omega, by go_num, ?_, ?_, ?_⟩, by simp [intOf]; omega⟩
            · simp only [data_app]
              simp [recL]
            · rw [HU.out, take_flat_succ recL recs k _ hrk, List.append_assoc]
            · exact (hg.alloc hg.size _).trans (hw2.mono (by have := hg.size; simp at this ⊢; omega))
          · have hkk : recs.take k = recs := List.take_of_length_le (by omega)
            go_wp2
            go_ret
            refine ⟨ret_str ?_, ?_⟩
            · rw [HU.out, hkk, HTt.out, HT2.out]
              rfl
            · exact ((Below.refl _ _).alloc (Nat.le_refl _) _).trans (hg.mono (by simp))

end Go.Proofs.YtkgkhcfonlhphaaGreatDoor
