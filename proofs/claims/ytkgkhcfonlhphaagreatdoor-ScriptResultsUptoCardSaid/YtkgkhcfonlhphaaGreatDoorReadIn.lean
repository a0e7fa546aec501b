/- What an argument reads as: rows of structs, opened; what the listed variables give. -/
import Derived.Test.YtkgkhcfonlhphaaGreatDoorLawLines
import Derived.Test.YtkgkhcfonlhphaaGreatDoorRows
import Derived.Deep.Slices
import Derived.Deep.Fields
import Derived.ChangeSame
import Derived.SizedLaws
import Derived.DataShut
namespace Go.Proofs.YtkgkhcfonlhphaaGreatDoor
open Go.ChangeShapes Go.WideShapes Go.Deep Go.RowKit

theorem list_of {α : Type} (P : Nat → α → Prop) : ∀ n, (∀ i, i < n → ∃ a, P i a) → ∃ l : List α, l.length = n ∧ ∀ i a, l[i]? = some a → P i a
  | 0, _ => ⟨[], rfl, by simp⟩
  | n + 1, h => by
    obtain ⟨l, hl, hp⟩ := list_of P n (fun i hi => h i (by omega))
    obtain ⟨a, ha⟩ := h n (by omega)
    refine ⟨l ++ [a], by simp [hl], fun i b hb => ?_⟩
    rcases Nat.lt_or_ge i n with hi | hi
    · rw [List.getElem?_append_left (by omega)] at hb
      exact hp i b hb
    · have hi2 : i = n := by
        have := (List.getElem?_eq_some_iff.1 hb).1
        simp at this
        omega
      rw [hi2, List.getElem?_append_right (by omega), hl, Nat.sub_self] at hb
      have e : a = b := by simpa using hb
      rw [hi2, ← e]
      exact ha

theorem flat_len {α : Type} (f : α → List Value) (k : Nat) (hf : ∀ a, (f a).length = k) : ∀ l : List α, (l.flatMap f).length = l.length * k
  | [] => by simp
  | a :: l => by rw [List.flatMap_cons, List.length_append, flat_len f k hf l, hf, List.length_cons, Nat.succ_mul]; omega

theorem bulk_mem {H : Type} {d : DataW H} {l : List (DataW H)} (h : d ∈ l) : Rows.uptoBulk d ≤ Rows.uptoBulkAll l := by
  induction l with
  | nil => cases h
  | cons x r ih =>
    simp only [Rows.uptoBulkAll]
    rcases List.mem_cons.1 h with e | e
    · subst e; omega
    · have := ih e; omega

theorem weights_mem_all {H : Type} {P : Program} {e : TypeId} {d : DataW H} {l : List (DataW H)} (h : d ∈ l) : ∀ q ∈ d.weights P e, q ∈ DataW.weightsAll P e l := by
  induction l with
  | nil => cases h
  | cons x r ih =>
    intro q hq
    simp only [DataW.weightsAll, List.mem_append]
    rcases List.mem_cons.1 h with e | e
    · subst e; exact .inl hq
    · exact .inr (ih e q hq)

section
variable {H : Type} {enc : TypeId × Value → H} {P : Program} {w : World} {base : Nat} {spare : Nat → Bool} {held : Bool}

theorem read_slice {α : Type} {t e : TypeId} {fuel : Nat} {v : Value} {x : DataW H × List MemPlace} (ht : P.underlying t = some (.slice e)) (k : Nat) (hk : P.cellsOf e = k) (hk0 : 0 < k) (f : α → List Value) (hf : ∀ a, (f a).length = k) (Q : α → DataW H → Prop)
    (hel : ∀ n cs' y, DataW.trod enc P w base spare held n e cs' = some y → ∃ a, cs' = f a ∧ Q a y.1) (h : DataW.trod enc P w base spare held fuel t [v] = some x) :
    ∃ (A : Option Addr) (n c : Nat) (l : List α), v = .slice A n c ∧ l.length = n ∧ n ≤ c ∧ Reads w w.heap.size k A n (l.flatMap f) ∧
      (∀ a ∈ l, ∃ y, Q a y ∧ (∀ q ∈ y.weights P e, q ∈ x.1.weights P t) ∧ Rows.uptoBulk y ≤ Rows.uptoBulk x.1) ∧ ∀ B, (∀ q ∈ x.1.weights P t, q ≤ B) → n * P.bytesOf e ≤ B := by
  rcases open_slice ht h with ⟨hcs, hx⟩ | ⟨a, len, cap, m, n, D, Pl, hcs, hb, hl, hm, hmm, hx, hi⟩
  · refine ⟨none, 0, 0, [], by simpa using hcs, rfl, Nat.le_refl _, .none_, (by intro a ha; cases ha), fun B _ => by simp⟩
  · have hlm : len ≤ m := by rw [hmm]; split <;> omega
    obtain ⟨l, hll, hlp⟩ := list_of (fun i a' => w.cells? base (a.add (i * P.cellsOf e)) (P.cellsOf e) = some (f a') ∧ Q a' (D i)) len (fun i him => by
      obtain ⟨cs', hc, htr⟩ := hi i (by omega)
      obtain ⟨a', rfl, hq⟩ := hel _ _ _ htr
      exact ⟨a', hc, hq⟩)
    have hcell : ∀ i a', l[i]? = some a' → ∀ r, r < k → w.cell? (a.add (i * k + r)) = (f a')[r]? := fun i a' hi' r hr => by
      have h1 := (hlp i a' hi').1
      rw [hk] at h1
      rw [← add_add]
      exact (World.cells?_some h1).2.2 r hr
    refine ⟨some a, len, cap, l, by simpa using hcs, hll, hl, ⟨by rw [flat_len f k hf, hll], fun h0 => ?_⟩, fun a' ha' => ?_, fun B hB => ?_⟩
    · obtain ⟨a0, ha0⟩ : ∃ a0, l[0]? = some a0 := ⟨_, List.getElem?_eq_getElem (by omega)⟩
      have h00 := hcell 0 a0 ha0 0 hk0
      obtain ⟨u0, hu0⟩ : ∃ u, (f a0)[0]? = some u := ⟨_, List.getElem?_eq_getElem (by rw [hf]; exact hk0)⟩
      rw [hu0] at h00
      have hadd0 : a.add (0 * k + 0) = a := by simp [Addr.add]
      rw [hadd0] at h00
      have hspot : a.spot = none := by
        unfold World.cell? at h00
        split at h00
        · split at h00
          · cases h00
          · rename_i hs
            simpa using hs
        · cases h00
      obtain ⟨b, o, sp⟩ := a
      simp only at hspot
      subst hspot
      refine ⟨b, o, rfl, block_lt_of_cell h00, fun j u hu => ?_⟩
      have hj : j < l.length * k := by
        have := (List.getElem?_eq_some_iff.1 hu).1
        rw [flat_len f k hf] at this
        exact this
      have hdiv : j / k < l.length := Nat.div_lt_of_lt_mul (by rw [Nat.mul_comm]; exact hj)
      have hmod : j % k < k := Nat.mod_lt _ hk0
      obtain ⟨a', ha'⟩ : ∃ a', l[j / k]? = some a' := ⟨_, List.getElem?_eq_getElem hdiv⟩
      have hj2 : j / k * k + j % k = j := by rw [Nat.mul_comm]; exact Nat.div_add_mod j k
      have h2 := hcell _ a' ha' _ hmod
      have h3 := flat_get f k hf l (j / k) a' (j % k) ha' hmod
      rw [hj2] at h2 h3
      rw [h3] at hu
      rw [hu] at h2
      have hadd : (⟨b, o, none⟩ : Addr).add j = ⟨b, o + j, none⟩ := by unfold Addr.add; split <;> simp_all
      rw [hadd] at h2
      exact h2
    · obtain ⟨i, hi'⟩ := List.getElem?_of_mem ha'
      have hil : i < len := by
        have := (List.getElem?_eq_some_iff.1 hi').1
        omega
      have hmem : D i ∈ (List.range len).map D := List.mem_map.2 ⟨i, List.mem_range.2 hil, rfl⟩
      refine ⟨D i, (hlp i a' hi').2, fun q hq => ?_, ?_⟩
      · rw [hx]
        simp only [DataW.weights, ht, List.mem_cons, List.mem_append]
        exact .inr (.inl (weights_mem_all hmem q hq))
      · rw [hx]
        have := bulk_mem hmem
        simp only [Rows.uptoBulk]
        omega
    · have h1 := hB (((List.range len).map D).length + ((List.range (m - len)).map fun j => D (len + j)).length |>.mul (P.bytesOf e)) (by
        rw [hx]
        simp only [DataW.weights, ht, List.mem_cons]
        exact .inl rfl)
      refine Nat.le_trans (Nat.mul_le_mul_right _ ?_) h1
      simp
end

/-! the seat's own types -/
theorem cells_int : Tryz.prog.cellsOf 3 = 1 := by kernel_rfl
theorem cells_str : Tryz.prog.cellsOf 9 = 1 := by kernel_rfl
theorem cells_u32 : Tryz.prog.cellsOf 51 = 1 := by kernel_rfl
theorem cells_errno : Tryz.prog.cellsOf 22 = 1 := by kernel_rfl
theorem cells_row : Tryz.prog.cellsOf 50 = 3 := by kernel_rfl
theorem cells_rec : Tryz.prog.cellsOf 53 = 6 := by kernel_rfl
theorem cells_stats : Tryz.prog.cellsOf 25 = 4 := by kernel_rfl
theorem cells_rows : Tryz.prog.cellsOf 23 = 1 := by kernel_rfl
theorem cells_recs : Tryz.prog.cellsOf 26 = 1 := by kernel_rfl
theorem cells_res : Tryz.prog.cellsOf 28 = 8 := by kernel_rfl
theorem cells_op : Tryz.prog.cellsOf 36 = 11 := by kernel_rfl
theorem cells_strs : Tryz.prog.cellsOf 34 = 1 := by kernel_rfl

section
variable {H : Type} {enc : TypeId × Value → H} {w : World} {base : Nat} {spare : Nat → Bool} {held : Bool}

theorem rd_int {n : Nat} {c : Value} {y : DataW H × List MemPlace} (h : DataW.trod enc Tryz.prog w base spare held n 3 [c] = some y) : ∃ m, c = .int .i64 m ∧ I64 m ∧ y.1 = .lit (.int .i64 m) := by
  obtain ⟨m, hc, hy, hw⟩ := DataW.trod_int Tryz.underlying3 h
  rw [Lit.wf_int_iff, IntKind.min_i64, IntKind.max_i64] at hw
  exact ⟨m, by simpa using hc, hw, by rw [hy]⟩

theorem rd_errno {n : Nat} {c : Value} {y : DataW H × List MemPlace} (h : DataW.trod enc Tryz.prog w base spare held n 22 [c] = some y) : ∃ m, c = .int .i64 m ∧ I64 m := by
  obtain ⟨m, hc, hy, hw⟩ := DataW.trod_int Tryz.underlying22 h
  rw [Lit.wf_int_iff, IntKind.min_i64, IntKind.max_i64] at hw
  exact ⟨m, by simpa using hc, hw⟩

theorem rd_u32 {n : Nat} {c : Value} {y : DataW H × List MemPlace} (h : DataW.trod enc Tryz.prog w base spare held n 51 [c] = some y) : ∃ m : Nat, c = .int .u32 m ∧ m < 4294967296 := by
  obtain ⟨m, hc, hy, hw⟩ := DataW.trod_int Tryz.underlying51 h
  rw [Lit.wf_int_iff] at hw
  have h0 : IntKind.u32.min = 0 := by rfl
  have h1 : IntKind.u32.max = 4294967295 := by rfl
  rw [h0, h1] at hw
  refine ⟨m.toNat, ?_, by omega⟩
  have : ((m.toNat : Nat) : Int) = m := by omega
  rw [this]
  simpa using hc

theorem rd_str {n : Nat} {c : Value} {y : DataW H × List MemPlace} (h : DataW.trod enc Tryz.prog w base spare held n 9 [c] = some y) : ∃ s : ByteArray, c = .string s ∧ y.1 = .lit (.string s.data.toList) := by
  obtain ⟨s, hc, hy, _⟩ := DataW.trod_string Tryz.underlying9 h
  exact ⟨s, by simpa using hc, by rw [hy]⟩

theorem bulk_str (s : ByteArray) : Rows.uptoBulk (DataW.lit (H := H) (.string s.data.toList)) = s.size + 1 := by
  simp only [Rows.uptoBulk]
  rw [Array.length_toList]
  rfl

set_option maxRecDepth 100000 in
theorem rd_row {n : Nat} {cs : List Value} {y : DataW H × List MemPlace} (h : DataW.trod enc Tryz.prog w base spare held n 50 cs = some y) :
    ∃ r : RowV, cs = rowCells r ∧ I64 r.label ∧ r.key.size ≤ Rows.uptoBulk y.1 ∧ r.val.size ≤ Rows.uptoBulk y.1 := by
  obtain ⟨xs, m, _, rfl, hlen, hxl, hf⟩ := DataW.trod_struct Tryz.underlying50 h
  rw [cells_row] at hlen
  match cs, hlen with
  | [c0, c1, c2], _ =>
    match xs, hxl with
    | [x0, x1, x2], _ =>
      have h0 : DataW.trod enc Tryz.prog w base spare held m 9 (([c0, c1, c2].drop 0).take (Tryz.prog.cellsOf 9)) = some x0 := hf 0 _ rfl
      have h1 : DataW.trod enc Tryz.prog w base spare held m 3 (([c0, c1, c2].drop 1).take (Tryz.prog.cellsOf 3)) = some x1 := hf 1 _ rfl
      have h2 : DataW.trod enc Tryz.prog w base spare held m 9 (([c0, c1, c2].drop 2).take (Tryz.prog.cellsOf 9)) = some x2 := hf 2 _ rfl
      rw [cells_str] at h0
      rw [cells_int] at h1
      rw [cells_str] at h2
      obtain ⟨s0, rfl, e0⟩ := rd_str h0
      obtain ⟨i1, rfl, w1, e1⟩ := rd_int h1
      obtain ⟨s2, rfl, e2⟩ := rd_str h2
      refine ⟨⟨s0, i1, s2⟩, rfl, w1, ?_, ?_⟩
      all_goals
        simp only [List.map_cons, List.map_nil, e0, e1, e2, Rows.uptoBulk, Rows.uptoBulkAll]
        have a0 : s0.data.toList.length = s0.size := by rw [Array.length_toList]; rfl
        have a2 : s2.data.toList.length = s2.size := by rw [Array.length_toList]; rfl
        omega

set_option maxRecDepth 100000 in
theorem rd_rec {n : Nat} {cs : List Value} {y : DataW H × List MemPlace} (h : DataW.trod enc Tryz.prog w base spare held n 53 cs = some y) :
    ∃ r : RecV, cs = recCells r ∧ I64 r.actor ∧ I64 r.src ∧ I64 r.dst ∧ r.digest < 4294967296 ∧ r.bucket.size ≤ Rows.uptoBulk y.1 ∧ r.key.size ≤ Rows.uptoBulk y.1 := by
  obtain ⟨xs, m, _, rfl, hlen, hxl, hf⟩ := DataW.trod_struct Tryz.underlying53 h
  rw [cells_rec] at hlen
  match cs, hlen with
  | [c0, c1, c2, c3, c4, c5], _ =>
    match xs, hxl with
    | [x0, x1, x2, x3, x4, x5], _ =>
      have h0 : DataW.trod enc Tryz.prog w base spare held m 3 (([c0, c1, c2, c3, c4, c5].drop 0).take (Tryz.prog.cellsOf 3)) = some x0 := hf 0 _ rfl
      have h1 : DataW.trod enc Tryz.prog w base spare held m 3 (([c0, c1, c2, c3, c4, c5].drop 1).take (Tryz.prog.cellsOf 3)) = some x1 := hf 1 _ rfl
      have h2 : DataW.trod enc Tryz.prog w base spare held m 3 (([c0, c1, c2, c3, c4, c5].drop 2).take (Tryz.prog.cellsOf 3)) = some x2 := hf 2 _ rfl
      have h3 : DataW.trod enc Tryz.prog w base spare held m 9 (([c0, c1, c2, c3, c4, c5].drop 3).take (Tryz.prog.cellsOf 9)) = some x3 := hf 3 _ rfl
      have h4 : DataW.trod enc Tryz.prog w base spare held m 9 (([c0, c1, c2, c3, c4, c5].drop 4).take (Tryz.prog.cellsOf 9)) = some x4 := hf 4 _ rfl
      have h5 : DataW.trod enc Tryz.prog w base spare held m 51 (([c0, c1, c2, c3, c4, c5].drop 5).take (Tryz.prog.cellsOf 51)) = some x5 := hf 5 _ rfl
      rw [cells_int] at h0
      rw [cells_int] at h1
      rw [cells_int] at h2
      rw [cells_str] at h3
      rw [cells_str] at h4
      rw [cells_u32] at h5
      obtain ⟨i0, rfl, w0, e0⟩ := rd_int h0
      obtain ⟨i1, rfl, w1, e1⟩ := rd_int h1
      obtain ⟨i2, rfl, w2, e2⟩ := rd_int h2
      obtain ⟨s3, rfl, e3⟩ := rd_str h3
      obtain ⟨s4, rfl, e4⟩ := rd_str h4
      obtain ⟨i5, rfl, w5⟩ := rd_u32 h5
      refine ⟨⟨i0, i1, i2, s3, s4, i5⟩, rfl, w0, w1, w2, w5, ?_, ?_⟩
      all_goals
        simp only [List.map_cons, List.map_nil, e0, e1, e2, e3, e4, Rows.uptoBulk, Rows.uptoBulkAll]
        have a0 : s3.data.toList.length = s3.size := by rw [Array.length_toList]; rfl
        have a2 : s4.data.toList.length = s4.size := by rw [Array.length_toList]; rfl
        omega

theorem rd_strs {n : Nat} {c : Value} {y : DataW H × List MemPlace} (h : DataW.trod enc Tryz.prog w base spare held n 34 [c] = some y) :
    ∃ (A : Option Addr) (m cap : Nat) (l : List ByteArray), c = .slice A m cap ∧ l.length = m ∧ m ≤ cap ∧ Reads w w.heap.size 1 A m (l.map Value.string) ∧
      ∀ B, (∀ q ∈ y.1.weights Tryz.prog 34, q ≤ B) → m ≤ B ∧ ∀ s ∈ l, s.size ≤ B := by
  obtain ⟨A, m, cap, l, rfl, hl, hc, hR, hq, hB⟩ := read_slice (α := ByteArray) Tryz.underlying34 1 cells_str (by decide) (fun s => [.string s]) (fun _ => rfl) (fun s d => d = .lit (.string s.data.toList)) (fun n cs' y h => by
    obtain ⟨s, hc, hy, _⟩ := DataW.trod_string Tryz.underlying9 h
    exact ⟨s, hc, by rw [hy]⟩) h
  refine ⟨A, m, cap, l, rfl, hl, hc, ?_, fun B hw => ⟨?_, fun s hs => ?_⟩⟩
  · have e : l.flatMap (fun s => [Value.string s]) = l.map Value.string := by
      clear hl hR hq
      induction l with
      | nil => rfl
      | cons a l ih => rw [List.flatMap_cons, ih]; rfl
    rw [← e]
    exact hR
  · have h1 := hB B hw
    have h2 : Tryz.prog.bytesOf 9 = 16 := by kernel_rfl
    rw [h2] at h1
    omega
  · obtain ⟨d, rfl, hd, _⟩ := hq s hs
    have h1 := hw s.data.toList.length (hd _ (by simp [DataW.weights]))
    have a0 : s.data.toList.length = s.size := by rw [Array.length_toList]; rfl
    omega
end

end Go.Proofs.YtkgkhcfonlhphaaGreatDoor
