/- The contract of script.take at a field's word. -/
import Derived.Test.YtkgkhcfonlhphaaGreatDoorUnqs
import Derived.Test.YtkgkhcfonlhphaaGreatDoorDec
namespace Go.Proofs.YtkgkhcfonlhphaaGreatDoor
open Go.RowKit

/-- all that was, but block `p`, is as it was -/
structure But (p : Nat) (w w' : World) : Prop where
  os : w'.os = w.os
  tape : w'.tape = w.tape
  output : w'.output = w.output
  size : w.heap.size ≤ w'.heap.size
  block : ∀ k, k < w.heap.size → k ≠ p → w'.heap[k]? = w.heap[k]?

theorem But.refl (p : Nat) (w : World) : But p w w := ⟨rfl, rfl, rfl, Nat.le_refl _, fun _ _ _ => rfl⟩
theorem But.trans {p : Nat} {a b c : World} (h : But p a b) (k : But p b c) : But p a c :=
  ⟨k.os.trans h.os, k.tape.trans h.tape, k.output.trans h.output, Nat.le_trans h.size k.size, fun q hq hn => (k.block q (Nat.lt_of_lt_of_le hq h.size) hn).trans (h.block q hq hn)⟩
theorem But.of_below {p : Nat} {a b : World} (h : Below a.heap.size a b) : But p a b := ⟨h.os, h.tape, h.output, h.size, fun q hq _ => h.block q hq⟩
theorem But.setCell (p j : Nat) (v : Value) (w : World) : But p w (w.setCell ⟨p, j, none⟩ v) := by
  have h := (Below.refl p w).setCell (p := ⟨p, j, none⟩) (Nat.le_refl _) v
  exact ⟨h.os, h.tape, h.output, h.size, fun k _ hn => Below.heap_setCell w _ v k hn⟩
theorem But.below {p B : Nat} {a b : World} (h : But p a b) (hB : B ≤ p) (hB2 : B ≤ a.heap.size) : Below B a b := ⟨h.os, h.tape, h.output, h.size, fun k hk => h.block k (by omega) (by omega)⟩
theorem But.cell {p : Nat} {a b : World} (h : But p a b) {q : Addr} (hq : q.block < a.heap.size) (hn : q.block ≠ p) : b.cell? q = a.cell? q := World.cell?_of_block (w := a) (h.block q.block hq hn)

theorem FieldsAt.but {w w' : World} {g p : Nat} {bs : List Nat} (h : FieldsAt w g bs) (hb : But p w w') (hg : g ≠ p) (hbs : p ∉ bs) : FieldsAt w' g bs :=
  ⟨h.len, fun k v hv => by rw [hb.cell h.glt hg]; exact h.row k v hv, Nat.lt_of_lt_of_le h.glt hb.size, fun b hbm => Nat.lt_of_lt_of_le (h.blt b hbm) hb.size,
   fun k x b hx hbk => by
    have hm := List.mem_of_getElem? hbk
    rw [hb.cell (h.blt b hm) (fun e => by have e' : b = p := e; subst e'; exact hbs hm)]
    exact h.box k x b hx hbk⟩

theorem field_names (j k : Nat) (x y : Nat × Nat × Nat × ByteArray) (hx : fieldKeys[j]? = some x) (hy : fieldKeys[k]? = some y) : (x.2.2.2.toList == y.2.2.2.toList) = decide (j = k) := by
  have h : ∀ j, j < 9 → ∀ k, k < 9 → ((fieldKeys.getD j (0, 0, 0, ⟨#[]⟩)).2.2.2.data.toList == (fieldKeys.getD k (0, 0, 0, ⟨#[]⟩)).2.2.2.data.toList) = decide (j = k) := by decide
  have hj : j < 9 := (List.getElem?_eq_some_iff.1 hx).1
  have hk : k < 9 := (List.getElem?_eq_some_iff.1 hy).1
  have := h j hj k hk
  rw [List.getD_eq_getElem?_getD, List.getD_eq_getElem?_getD, hx, hy] at this
  rw [ByteArray.toList_eq, ByteArray.toList_eq]
  exact this

theorem field_not_keep (k : Nat) (x : Nat × Nat × Nat × ByteArray) (hx : fieldKeys[k]? = some x) : (x.2.2.2.toList == [107, 101, 101, 112]) = false := by
  have h : ∀ y ∈ fieldKeys, (y.2.2.2.data.toList == [107, 101, 101, 112]) = false := by decide
  have := h x (List.mem_of_getElem? hx)
  rw [ByteArray.toList_eq]
  exact this

/-- the block of an operation under way -/
def OpAt (w : World) (p : Nat) (cs : Array Value) : Prop := w.heap[p]? = some (.cells cs 36 (0, 0))

theorem OpAt.cell {w : World} {p : Nat} {cs : Array Value} (h : OpAt w p cs) {j : Nat} {v : Value} (hj : cs[j]? = some v) : w.cell? ⟨p, j, none⟩ = some v ∧ w.frozen? ⟨p, j, none⟩ = false := by
  unfold OpAt at h
  constructor
  · simp [World.cell?, h, hj]
  · simp [World.frozen?, h]

theorem OpAt.set {w : World} {p : Nat} {cs : Array Value} (h : OpAt w p cs) (j : Nat) (v : Value) : OpAt (w.setCell ⟨p, j, none⟩ v) p (cs.setIfInBounds j v) := by
  have := heap_setCell_same w p j cs _ v h
  exact this

theorem OpAt.below {w w' : World} {p : Nat} {cs : Array Value} (h : OpAt w p cs) (hb : Below w.heap.size w w') : OpAt w' p cs := (hb.block p (Array.getElem?_eq_some_iff.1 h).1).trans h

/-- the value of field `k` -/
def fieldX (o : OpV) (k : Nat) : Value := (o.cells none 0).getD (k + 1) undef

theorem numT_atoi (n : Int) (h : I64 n) (hne : numT n ≠ []) : (⟨(numT n).toArray⟩ : ByteArray).size ≤ 100 ∧ Lib.atoiAll (⟨(numT n).toArray⟩ : ByteArray).data.toList = .ok n := by
  have hl := numT_length n h
  have e : numT n = Lib.itoa n := by
    unfold numT at hne ⊢
    split
    · rename_i hz; rw [if_pos hz] at hne; exact absurd rfl hne
    · rfl
  refine ⟨?_, ?_⟩
  · show (numT n).toArray.size ≤ 100
    rw [List.size_toArray]
    omega
  · simp only [e]
    exact atoi_itoa n h.1 (by have := h.2; omega)

theorem strT_quote (s : ByteArray) (hne : strT s ≠ []) : strT s = quoteL s.data.toList := by
  unfold strT at hne ⊢
  split
  · rename_i hz; rw [if_pos hz] at hne; exact absurd rfl hne
  · rfl

theorem take_field (k : Nat) (x : Nat × Nat × Nat × ByteArray) (hx : fieldKeys[k]? = some x) (o : OpV) (ho : o.ok) (hne : (fieldT o).getD k [] ≠ []) (p b : Nat) (cs : Array Value) (w : World) (hO : OpAt w p cs) (hcs : cs.size = 11)
    (hb : w.cell? ⟨b, 0, none⟩ = some (.func (.func x.1) #[] #[])) (hblt : b < w.heap.size) (hT : Tabs w) :
    Calls Tryz.prog x.2.2.1 #[.pointer (some ⟨p, 0, none⟩), .string ⟨((fieldT o).getD k []).toArray⟩, .pointer (some ⟨b, 0, none⟩)] w fun e w' => e = .returned (.bool true) ∧ ∃ w1, Below w.heap.size w w1 ∧ w' = w1.setCell ⟨p, k + 1, none⟩ (fieldX o k) := by
  have hp : p < w.heap.size := (Array.getElem?_eq_some_iff.1 hO).1
  have hc : ∀ j, j < 11 → w.cell? ⟨p, j, none⟩ = some (cs.getD j undef) ∧ w.frozen? ⟨p, j, none⟩ = false := fun j hj => hO.cell (by simp [Array.getD, hcs, hj])
  have num : ∀ (F j : Nat) (n : Int), I64 n → AtFn F j → j < 11 → numT n ≠ [] → w.cell? ⟨b, 0, none⟩ = some (.func (.func F) #[] #[]) →
      Calls Tryz.prog 69 #[.pointer (some ⟨p, 0, none⟩), .string ⟨(numT n).toArray⟩, .pointer (some ⟨b, 0, none⟩)] w fun e w' => e = .returned (.bool true) ∧ ∃ w1, Below w.heap.size w w1 ∧ w' = w1.setCell ⟨p, j, none⟩ (.int .i64 n) :=
    fun F j n hn hF hj h hbb => take_num F j p b _ n _ w hF hbb (hc j hj).1 (hc j hj).2 hblt (numT_atoi n hn h).1 (numT_atoi n hn h).2 hp
  have txt : ∀ (F j : Nat) (s : ByteArray), s.size ≤ 1000 → AtFn F j → j < 11 → strT s ≠ [] → w.cell? ⟨b, 0, none⟩ = some (.func (.func F) #[] #[]) →
      Calls Tryz.prog 72 #[.pointer (some ⟨p, 0, none⟩), .string ⟨(strT s).toArray⟩, .pointer (some ⟨b, 0, none⟩)] w fun e w' => e = .returned (.bool true) ∧ ∃ w1, Below w.heap.size w w1 ∧ w' = w1.setCell ⟨p, j, none⟩ (.string s) :=
    fun F j s hs hF hj h hbb => by
      rw [strT_quote s h]
      exact take_text F j p b s _ w hF hbb (hc j hj).1 (hc j hj).2 hblt (by omega) hp hT.utf
  match k, hx, hne with
  | 0, hx, hne => cases hx; exact num _ 1 o.level ho.level at1 (by omega) hne hb
  | 1, hx, hne => cases hx; exact num _ 2 o.session ho.session at2 (by omega) hne hb
  | 2, hx, hne => cases hx; exact num _ 3 o.snap ho.snap at3 (by omega) hne hb
  | 3, hx, hne => cases hx; exact txt _ 4 o.bucket ho.bucket at4 (by omega) hne hb
  | 4, hx, hne => cases hx; exact txt _ 5 o.key ho.key at5 (by omega) hne hb
  | 5, hx, hne => cases hx; exact txt _ 6 o.value ho.value at6 (by omega) hne hb
  | 6, hx, hne => cases hx; exact num _ 7 o.label ho.label at7 (by omega) hne hb
  | 7, hx, hne => cases hx; exact num _ 8 o.dst ho.dst at8 (by omega) hne hb
  | 8, hx, hne => cases hx; exact num _ 9 o.n ho.n at9 (by omega) hne hb
  | k + 9, hx, hne => exact absurd hx (by simp [fieldKeys])

/-- Unquote at a field's text: some text, and whether -/
theorem unq_field (k : Nat) (o : OpV) (ho : o.ok) (hne : (fieldT o).getD k [] ≠ []) (w : World) (hT : Tabs w) :
    ∃ t q, Calls Tryz.prog 14 #[.string ⟨((fieldT o).getD k []).toArray⟩] w fun e w' => e = .returned (.tuple #[.string t, .bool q]) ∧ Below w.heap.size w w' := by
  have num : ∀ (n : Int), I64 n → numT n ≠ [] → ∃ t q, Calls Tryz.prog 14 #[.string ⟨(numT n).toArray⟩] w fun e w' => e = .returned (.tuple #[.string t, .bool q]) ∧ Below w.heap.size w w' := fun n hn h => by
    have e : numT n = Lib.itoa n := by
      unfold numT at h ⊢
      split
      · rename_i hz; rw [if_pos hz] at h; exact absurd rfl h
      · rfl
    rw [e]
    have hb := itoa_bytes n
    have hl := itoa_length n hn.1 hn.2
    have hx : ∀ b ∈ Lib.itoa n, b ≠ 37 ∧ b ≠ 34 := fun b hbm => by
      rcases hb b hbm with rfl | h
      · exact ⟨by decide, by decide⟩
      · unfold isDec at h
        exact ⟨by rintro rfl; simp at h, by rintro rfl; simp at h⟩
    exact ⟨_, _, scr_Unquote_not _ (fun h => (hx 34 (List.mem_of_mem_head? h)).2 rfl) (fun b hbm => (hx b hbm).1) w (by omega) hT.utf⟩
  have txt : ∀ (s : ByteArray), s.size ≤ 1000 → strT s ≠ [] → ∃ t q, Calls Tryz.prog 14 #[.string ⟨(strT s).toArray⟩] w fun e w' => e = .returned (.tuple #[.string t, .bool q]) ∧ Below w.heap.size w w' := fun s hs h => by
    rw [strT_quote s h]
    exact ⟨_, _, scr_Unquote_quote s w (by omega) hT.utf⟩
  match k, hne with
  | 0, hne => exact num o.level ho.level hne
  | 1, hne => exact num o.session ho.session hne
  | 2, hne => exact num o.snap ho.snap hne
  | 3, hne => exact txt o.bucket ho.bucket hne
  | 4, hne => exact txt o.key ho.key hne
  | 5, hne => exact txt o.value ho.value hne
  | 6, hne => exact num o.label ho.label hne
  | 7, hne => exact num o.dst ho.dst hne
  | 8, hne => exact num o.n ho.n hne
  | k + 9, hne => exact absurd rfl hne

def FieldsPost (w : World) (e : Ending) (w' : World) : Prop := ∃ g, e = .returned (.slice (some ⟨g, 0, none⟩) 9 9) ∧ (∃ bs, FieldsAt w' g bs ∧ ∀ b ∈ bs, w.heap.size ≤ b) ∧ Below w.heap.size w w' ∧ w.heap.size ≤ g
theorem fields_post (w : World) : Calls Tryz.prog 25 #[] w (FieldsPost w) := fields_any w

set_option maxHeartbeats 1000000 in
set_option maxRecDepth 100000 in
theorem scr_take_field (k : Nat) (x : Nat × Nat × Nat × ByteArray) (hx : fieldKeys[k]? = some x) (o : OpV) (ho : o.ok) (hne : (fieldT o).getD k [] ≠ []) (p : Nat) (cs : Array Value) (w : World) (hO : OpAt w p cs) (hcs : cs.size = 11) (hT : ∀ W, But p w W → Tabs W) :
    Calls Tryz.prog 29 #[.pointer (some ⟨p, 0, none⟩), .string x.2.2.2, .string ⟨((fieldT o).getD k []).toArray⟩] w fun e w' => e = .returned (.tuple #[]) ∧ OpAt w' p (cs.setIfInBounds (k + 1) (fieldX o k)) ∧ But p w w' := by
  have hp : p < w.heap.size := (Array.getElem?_eq_some_iff.1 hO).1
  have hk9 : k < 9 := (List.getElem?_eq_some_iff.1 hx).1
  have hnk := field_not_keep k x hx
  have htf := fun b W hO hb hblt hT => take_field k x hx o ho hne p b cs W hO hcs hb hblt hT
  have huq := fun W hT => unq_field k o ho hne W hT
  have hnn := fun j y hy => field_names j k y x hy hx
  obtain ⟨t, ht⟩ : ∃ t : ByteArray, (⟨((fieldT o).getD k []).toArray⟩ : ByteArray) = t := ⟨_, rfl⟩
  simp only [ht] at htf huq
  rw [ht]
  obtain ⟨v, hv⟩ : ∃ v, fieldX o k = v := ⟨_, rfl⟩
  simp only [hv] at htf
  rw [hv]
  have Htf := Lib.hid htf
  have Huq := Lib.hid huq
  have Hnn := Lib.hid hnn
  have Hx := Lib.hid hx
  have HO := Lib.hid hO
  have HT := Lib.hid hT
  clear htf huq hnn hx hO hT ht hv ho hne hcs
  obtain ⟨F, S1, T1, nm⟩ := x
  simp only at hnk
  go_enter Tryz.func29, Tryz.ntmps29
  go_wp2_with (go_at_call 25; refine (fields_post _).mono ?_)
  intro e w1 hfp
  obtain ⟨g, rfl, ⟨bs, hF, hbl⟩, hb1, hgl⟩ := hfp
  have hgp : g ≠ p := by omega
  have hbp : p ∉ bs := fun h => by have := hbl p h; omega
  have hO1 : OpAt w1 p cs := HO.out.below hb1
  have hB1 : But p w w1 := .of_below hb1
  have hs1 := hb1.size
  clear hgl hbl hb1
  go_wp2_with fail
  go_loopw [12] (fun i wr => ∃ j : Nat, j ≤ 9 ∧ i = .int .i64 (j : Int) ∧ FieldsAt wr g bs ∧ OpAt wr p (if j ≤ k then cs else cs.setIfInBounds (k + 1) v) ∧ But p w wr ∧ w1.heap.size ≤ wr.heap.size) (fun i _ => 9 - (intOf i).toNat)
  case atStart => exact ⟨0, by omega, rfl, hF, by rw [if_pos (Nat.zero_le _)]; exact hO1, hB1, Nat.le_refl _⟩
  case round =>
    clear hF hO1 hB1
    obtain ⟨j, hj9, rfl, hF, hO, hB, hsz⟩ := hrel
    by_cases hlt : j < 9
    · obtain ⟨y, hy⟩ : ∃ y, fieldKeys[j]? = some y := ⟨_, List.getElem?_eq_getElem (show j < fieldKeys.length from hlt)⟩
      obtain ⟨b, hb⟩ : ∃ b, bs[j]? = some b := ⟨_, List.getElem?_eq_getElem (show j < bs.length by rw [hF.len]; exact hlt)⟩
      have e0 : wr.cell? ⟨g, j * 3, none⟩ = _ := hF.row (j * 3) _ (field_get bs j y b 0 hy hb (by omega))
      have e1 := hF.row (j * 3 + 1) _ (field_get bs j y b 1 hy hb (by omega))
      have e2 := hF.row (j * 3 + 2) _ (field_get bs j y b 2 hy hb (by omega))
      have hgl := hF.glt
      have hEn := (show_enter j y hy).2
      have hnj := Hnn.out j y hy
      by_cases hjk : j = k
      · have hyx : y = (F, S1, T1, nm) := Option.some.inj (hy.symm.trans (by rw [hjk]; exact Hx.out))
        subst hyx
        simp only at e0 e1 e2 hEn
        have hnT : (nm.toList == nm.toList) = true := beq_self_eq_true _
        rw [if_pos (by omega)] at hO
        have HB := Lib.hid (And.intro hF (And.intro hO hB))
        clear hF hO hB hnj
        have HJ := Lib.hid hjk
        clear hjk
        have hbA : Below wr.heap.size wr (wr.alloc (.cells #[.string nm, .func (.func S1) #[] #[.pointer (some ⟨b, 0, none⟩)], .func (.func T1) #[] #[.pointer (some ⟨b, 0, none⟩)]] 64)) := (Below.refl _ _).alloc (Nat.le_refl _) _
        have hFA := HB.out.1.below hbA
        have hOA := HB.out.2.1.below hbA
        have hTA : Tabs (wr.alloc (.cells #[.string nm, .func (.func S1) #[] #[.pointer (some ⟨b, 0, none⟩)], .func (.func T1) #[] #[.pointer (some ⟨b, 0, none⟩)]] 64)) := HT.out _ (HB.out.2.2.trans (.of_below hbA))
        have hcall := Htf.out b _ hOA (hFA.box j _ b hy hb) (hFA.blt b (List.mem_of_getElem? hb)) hTA
        have HC := Lib.hid hcall
        have HA := Lib.hid (And.intro hbA (And.intro hFA hOA))
        clear hcall hbA hFA hOA hTA
        have hsA : (wr.alloc (.cells #[.string nm, .func (.func S1) #[] #[.pointer (some ⟨b, 0, none⟩)], .func (.func T1) #[] #[.pointer (some ⟨b, 0, none⟩)]] 64)).heap.size = wr.heap.size + 1 := by simp
        have HS := Lib.hid hsA
        clear hsA
        go_wp2_with (refine HC.out.mono ?_)
        clear HC
        obtain ⟨hbA, hFA, hOA⟩ := HA.out
        clear HA
        have hsA := HS.out
        clear HS
        generalize wr.alloc (.cells #[.string nm, .func (.func S1) #[] #[.pointer (some ⟨b, 0, none⟩)], .func (.func T1) #[] #[.pointer (some ⟨b, 0, none⟩)]] 64) = wA at *
        rintro e w2 ⟨rfl, w3, hb3, rfl⟩
        have hB3 : But p wr (w3.setCell ⟨p, k + 1, none⟩ v) := ((But.of_below hbA).trans (.of_below hb3)).trans (.setCell p (k + 1) v w3)
        have hF3 := HB.out.1.but hB3 hgp hbp
        have hO3 := (hOA.below hb3).set (k + 1) v
        have hBw := HB.out.2.2.trans hB3
        have hs3 := hB3.size
        generalize w3.setCell ⟨p, k + 1, none⟩ v = w4 at *
        clear hbA hFA hOA hb3 HB e0 e1 e2 hEn
        go_wp2_with fail
        exact ⟨⟨j + 1, by omega, by go_num, hF3, by rw [if_neg (by have := HJ.out; omega)]; exact hO3, hBw, by omega⟩, by simp [intOf]; omega⟩
      · have hnj2 : (y.2.2.2.toList == nm.toList) = false := by rw [hnj]; exact decide_eq_false hjk
        clear hnj
        obtain ⟨F2, S2, T2, nm2⟩ := y
        simp only at e0 e1 e2 hEn hnj2
        have hbA : Below wr.heap.size wr (wr.alloc (.cells #[.string nm2, .func (.func S2) #[] #[.pointer (some ⟨b, 0, none⟩)], .func (.func T2) #[] #[.pointer (some ⟨b, 0, none⟩)]] 64)) := (Below.refl _ _).alloc (Nat.le_refl _) _
        have HA := Lib.hid (And.intro (hF.below hbA) (And.intro (hO.below hbA) (hB.trans (.of_below hbA))))
        have HO2 := Lib.hid hjk
        clear hbA hF hO hB hEn hjk
        go_wp2_with fail
        obtain ⟨hFA, hOA, hBA⟩ := HA.out
        refine ⟨⟨j + 1, by omega, by go_num, hFA, ?_, hBA, by simp; omega⟩, by simp [intOf]; omega⟩
        have hjk := HO2.out
        by_cases h : j ≤ k
        · rw [if_pos h] at hOA
          rw [if_pos (by omega)]
          exact hOA
        · rw [if_neg h] at hOA
          rw [if_neg (by omega)]
          exact hOA
    · rw [if_neg (by omega)] at hO
      have hTr := HT.out _ hB
      obtain ⟨t1, q, hu⟩ := Huq.out _ hTr
      have HU := Lib.hid hu
      clear hu hF hTr
      go_wp2_with (go_at_call 14; refine HU.out.mono ?_)
      rintro e w2 ⟨rfl, hb2⟩
      have hO2 := hO.below hb2
      have hB2 := hB.trans (.of_below hb2)
      clear HU hO hB hb2
      cases q <;> go_wp2_with fail
      all_goals
        go_end0
        exact ⟨rfl, hO2, hB2⟩

end Go.Proofs.YtkgkhcfonlhphaaGreatDoor
