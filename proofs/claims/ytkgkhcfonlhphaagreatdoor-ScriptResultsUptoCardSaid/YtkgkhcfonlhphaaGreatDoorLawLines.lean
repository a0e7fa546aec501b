/- The law ScriptLines: true at all operations and any note. Conditions: the tables as laid. -/
import Derived.Test.YtkgkhcfonlhphaaGreatDoorLinesLaw
namespace Go.Proofs.YtkgkhcfonlhphaaGreatDoor
open Go.RowKit

theorem room_step {k a b : Nat} (h1 : a ≤ k * 400200) (h2 : b ≤ 400200) : a + b ≤ (k + 1) * 400200 := by omega
theorem room_all {k a : Nat} (h : a ≤ k * 400200) (hk : k ≤ 40) : a ≤ 16008000 := by omega

set_option maxHeartbeats 1000000 in
set_option maxRecDepth 100000 in
theorem law_ScriptLines (os : List OpV) (A : Option Addr) (c : Nat) (note : ByteArray) (w : World) (hO : OpsRead w A c os) (hi : ∀ o ∈ os, o.ints ∧ o.sized) (hl : os.length ≤ 140737488355328) (hns : note.size ≤ 140737488355328) (hT : Tabs3 w) :
    Calls Tryz.prog 4 #[.slice A os.length c, .string note] w fun e w' => e = .returned (.bool true) ∧ Below w.heap.size w w' := by
  obtain ⟨n, hn⟩ : ∃ n, os.length = n := ⟨_, rfl⟩
  have hc1 : n ≤ c := by rw [← hn]; exact hO.1
  have HT := Lib.hid hT
  have HO := Lib.hid hO
  have Hi := Lib.hid hi
  have Hn := Lib.hid hn
  rw [hn] at hl
  rw [hn]
  have hAw := law_awake w hT
  have HAw := Lib.hid hAw
  clear hAw hT hO hi hn
  go_enter Tryz.func4, Tryz.ntmps4
  go_wp2_with (go_at_call 5; refine HAw.out.mono ?_)
  rintro e w1 ⟨rfl, hw1⟩
  have H1 := Lib.hid hw1
  clear hw1 HAw
  by_cases hn40 : n ≤ 40
  rotate_left
  · have hd1 : decide ((40 : Int) < (n : Int)) = true := by simp; omega
    go_wp2_with fail
    go_ret
    exact ⟨rfl, H1.out⟩
  by_cases hn100 : note.size ≤ 100
  rotate_left
  · have hd1 : decide ((40 : Int) < (n : Int)) = false := by simp; omega
    have hd2 : decide ((100 : Int) < (note.size : Int)) = true := by simp; omega
    go_wp2_with fail
    go_ret
    exact ⟨rfl, H1.out⟩
  have hd1 : decide ((40 : Int) < (n : Int)) = false := by simp; omega
  have hd2 : decide ((100 : Int) < (note.size : Int)) = false := by simp; omega
  go_wp2_with fail
  clear hd1 hd2
  go_loopw [7] (fun i wr => ∃ k : Nat, k ≤ note.size ∧ i = .int .i64 (k : Int) ∧ (∀ b ∈ note.data.toList.take k, b ≠ 10) ∧ wr = w1) (fun i _ => note.size - (intOf i).toNat)
  case atStart => exact ⟨0, by omega, rfl, (by intro b hb; simp at hb), rfl⟩
  case round =>
    obtain ⟨k, hk, rfl, hno, hwr⟩ := hrel
    subst hwr
    have Hno := Lib.hid hno
    clear hno
    by_cases hlt : k < note.size
    · have hsz : k < note.data.toList.length := by simpa using hlt
      have hget : note.data.toList[k]'hsz = note[k]'hlt := rfl
      by_cases hten : note[k]'hlt = 10
      · have hd : (((note[k]'hlt).toNat : Int) == 10) = true := by rw [hten]; rfl
        go_wp2_with fail
        go_ret
        exact ⟨rfl, H1.out⟩
      · have hd : (((note[k]'hlt).toNat : Int) == 10) = false := by
          rw [beq_eq_false_iff_ne]
          intro h
          exact hten (UInt8.toNat_inj.1 (by show (note[k]'hlt).toNat = 10; omega))
        have HH := Lib.hid (And.intro hget hten)
        clear hget hten
        go_wp2_with fail
        refine ⟨⟨k + 1, by omega, by go_num, ?_, trivial⟩, by simp [intOf]; omega⟩
        intro b hb
        rw [List.take_add_one, List.getElem?_eq_getElem hsz] at hb
        rcases List.mem_append.1 hb with h | h
        · exact Hno.out b h
        · have h2 : b = note.data.toList[k]'hsz := by simpa using h
          rw [h2, HH.out.1]
          exact HH.out.2
    · have hall : ∀ b ∈ note.data.toList, b ≠ 10 := by
        have h := Hno.out
        rw [List.take_of_length_le (by simp; omega)] at h
        exact h
      have Hall := Lib.hid hall
      clear hall Hno
      have hnl : note.data.toList.length ≤ 100 := by simpa using hn100
      go_wp2_with fail
      go_loopw [6, 8] (fun s i w2 => ∃ (k : Nat) (t : List UInt8), k ≤ n ∧ i = .int .i64 (k : Int) ∧ s = .string ⟨t.toArray⟩ ∧ t = textT note.data.toList (os.take k) ∧ t.length ≤ k * 400200 ∧ (∀ o ∈ os.take k, o.ok ∧ named o) ∧ Below w.heap.size w w2) (fun _ i _ => n - (intOf i).toNat)
      case atStart => exact ⟨0, [], by omega, rfl, rfl, rfl, by simp, (by intro o ho; simp at ho), H1.out⟩
      case round =>
        obtain ⟨k, t, hk, rfl, rfl, ht, htl, hok, hb⟩ := hrel
        have HK := Lib.hid (And.intro ht (And.intro hok hb))
        clear ht hok hb
        by_cases hlt : k < n
        · have hko : k < os.length := by rw [Hn.out]; exact hlt
          obtain ⟨b, f, A', c', rfl, hbl, hKp, hcell⟩ := (HO.out.keep HK.out.2.2).at k hko
          have hok := Hi.out _ (List.getElem_mem hko)
          have hrk : os[k]? = some os[k] := List.getElem?_eq_getElem hko
          generalize os[k] = o at hKp hcell hok hrk
          obtain ⟨kind, level, session, snap, bucket, key, value, label, dst, nn, keep⟩ := o
          have hsmall := law_small_any ⟨kind, level, session, snap, bucket, key, value, label, dst, nn, keep⟩ hok.2 A' c' _ hKp
          have e0 := hcell 0 _ rfl
          have e1 := hcell 1 _ rfl
          have e2 := hcell 2 _ rfl
          have e3 := hcell 3 _ rfl
          have e4 := hcell 4 _ rfl
          have e5 := hcell 5 _ rfl
          have e6 := hcell 6 _ rfl
          have e7 := hcell 7 _ rfl
          have e8 := hcell 8 _ rfl
          have e9 := hcell 9 _ rfl
          have e10 := hcell 10 _ rfl
          simp only [OpV.cells, List.getElem_toArray, List.getElem_cons_zero, List.getElem_cons_succ, Nat.add_zero] at e0 e1 e2 e3 e4 e5 e6 e7 e8 e9 e10
          have hkind : I64 kind := hok.1.kind
          have HX := Lib.hid (And.intro hcell (And.intro hKp (And.intro hok hrk)))
          clear hcell hKp hok hrk
          obtain ⟨q, hq⟩ : ∃ q, smallV ⟨kind, level, session, snap, bucket, key, value, label, dst, nn, keep⟩ = q := ⟨_, rfl⟩
          rw [hq] at hsmall
          simp only [OpV.cells] at hsmall
          have HS := Lib.hid hsmall
          have HQ := Lib.hid hq
          clear hsmall hq
          go_wp2_with (go_at_call 8; refine HS.out.mono ?_)
          rintro e w3 ⟨rfl, hb3⟩
          have hw3 := HK.out.2.2.trans (hb3.mono HK.out.2.2.size)
          have d0 : w3.cell? ⟨b, f + k * 11, none⟩ = some (.int .i64 kind) := by rw [hb3.cell (p := ⟨b, f + k * 11, none⟩) hbl]; exact e0
          have H3 := Lib.hid (And.intro hb3 hw3)
          clear hb3 hw3 e0 e1 e2 e3 e4 e5 e6 e7 e8 e9 e10
          cases q with
          | false =>
            go_wp2_with fail
            go_ret
            exact ⟨rfl, H3.out.2⟩
          | true =>
            obtain ⟨nl, hnl2⟩ : ∃ l : List UInt8, nameB kind = ⟨l.toArray⟩ := ⟨_, (bytes_eta' _).symm⟩
            have hname := ref_Name kind hkind w3
            rw [hnl2] at hname
            have HN := Lib.hid hname
            have HL := Lib.hid hnl2
            clear hname hnl2
            go_wp2_with (go_at_call 9; refine HN.out.mono ?_)
            rintro e w4 ⟨rfl, hb4⟩
            have hw4 := H3.out.2.trans (hb4.mono H3.out.2.size)
            cases hem : nl.isEmpty with
            | true =>
              have H4 := Lib.hid hw4
              clear hw4 hb4
              go_wp2_with fail
              go_ret
              exact ⟨rfl, H4.out⟩
            | false =>
              have hb14 := H3.out.1.trans (hb4.mono H3.out.1.size)
              have hok2 := small_ok ⟨kind, level, session, snap, bucket, key, value, label, dst, nn, keep⟩ HX.out.2.2.1.1 HQ.out
              have hnm : named ⟨kind, level, session, snap, bucket, key, value, label, dst, nn, keep⟩ := by
                refine named_of _ fun h0 => ?_
                have h1 : (nameB kind).size = 0 := h0
                rw [HL.out] at h1
                have : nl = [] := List.length_eq_zero_iff.1 (by simpa [ByteArray.size] using h1)
                rw [this] at hem
                cases hem
              have hshow := scr_Show ⟨kind, level, session, snap, bucket, key, value, label, dst, nn, keep⟩ hok2 A' c' w4 (HX.out.2.1.keep hb14) (HT.out.below hw4).tabs2
              have hsl := showL_length _ hok2
              obtain ⟨S, hS⟩ : ∃ S, showL ⟨kind, level, session, snap, bucket, key, value, label, dst, nn, keep⟩ = S := ⟨_, rfl⟩
              rw [hS] at hshow hsl
              simp only [OpV.cells] at hshow
              have hcell4 : ∀ j v, (OpV.cells ⟨kind, level, session, snap, bucket, key, value, label, dst, nn, keep⟩ A' c')[j]? = some v → w4.cell? ⟨b, f + k * 11 + j, none⟩ = some v := fun j v hj => by
                rw [hb14.cell (p := ⟨b, f + k * 11 + j, none⟩) hbl]
                exact HX.out.1 j v hj
              have g0 := hcell4 0 _ rfl
              have g1 := hcell4 1 _ rfl
              have g2 := hcell4 2 _ rfl
              have g3 := hcell4 3 _ rfl
              have g4 := hcell4 4 _ rfl
              have g5 := hcell4 5 _ rfl
              have g6 := hcell4 6 _ rfl
              have g7 := hcell4 7 _ rfl
              have g8 := hcell4 8 _ rfl
              have g9 := hcell4 9 _ rfl
              have g10 := hcell4 10 _ rfl
              simp only [OpV.cells, List.getElem_toArray, List.getElem_cons_zero, List.getElem_cons_succ, Nat.add_zero] at g0 g1 g2 g3 g4 g5 g6 g7 g8 g9 g10
              have HW := Lib.hid hshow
              have HZ := Lib.hid (And.intro hS (And.intro hok2 (And.intro hnm hw4)))
              clear hshow hcell4 hS hok2 hnm hw4 hb4 hb14 d0
              go_wp2_with (go_at_call 10; refine HW.out.mono ?_)
              rintro e w5 ⟨rfl, hb5⟩
              have H5 := Lib.hid hb5
              clear hb5 g0 g1 g2 g3 g4 g5 g6 g7 g8 g9 g10
              go_wp2_with fail
              have hlin : (lineT note.data.toList ⟨kind, level, session, snap, bucket, key, value, label, dst, nn, keep⟩).length ≤ 400200 := by
                unfold lineT
                rw [HZ.out.1]
                simp only [List.length_cons, List.length_append, List.length_nil]
                omega
              refine ⟨⟨k + 1, t ++ lineT note.data.toList ⟨kind, level, session, snap, bucket, key, value, label, dst, nn, keep⟩, by omega, by go_num, ?_, ?_, ?_, ?_, HZ.out.2.2.2.trans (H5.out.mono HZ.out.2.2.2.size)⟩, by simp [intOf]; omega⟩
              · unfold lineT
                rw [HZ.out.1]
                conv => lhs; rw [← bytes_eta' note]
                simp only [data_app]
                simp
              · rw [textT_step _ _ _ _ HX.out.2.2.2, ← HK.out.1]
              · rw [List.length_append]
                exact room_step htl hlin
              · intro o ho
                rw [List.take_add_one, HX.out.2.2.2] at ho
                rcases List.mem_append.1 ho with h | h
                · exact HK.out.2.1 o h
                · have h2 : o = ⟨kind, level, session, snap, bucket, key, value, label, dst, nn, keep⟩ := by simpa using h
                  rw [h2]
                  exact ⟨HZ.out.2.1, HZ.out.2.2.1⟩
        · have hkn : os.take k = os := List.take_of_length_le (by rw [Hn.out]; omega)
          obtain ⟨ht, hok, hb⟩ := HK.out
          rw [hkn] at ht hok
          have hlen3 := itemsT_length note.data.toList os
          have hnle : os.length ≤ 40 := by rw [Hn.out]; omega
          have hok1 := itemsT_ok note.data.toList os Hall.out hok
          have hok2 : ∀ x ∈ itemsT note.data.toList os ++ [([], none)], ItemOk x := fun x hx => by
            rcases List.mem_append.1 hx with h | h
            · exact hok1 x h
            · rw [List.mem_singleton.1 h]
              exact .inl ⟨rfl, .inl rfl, fun b hb => by cases hb⟩
          have htl2 : t.length ≤ 16008000 := room_all htl (by omega)
          have hall1 := fun W (hW : Below w.heap.size w W) => scr_All (itemsT note.data.toList os ++ [([], none)]) false hok2 (by unfold linesOf; simp) (by simp; omega) (by rw [text_lines, ← ht]; omega) W (HT.out.below hW)
          rw [text_lines, ← ht] at hall1
          have hall2 := fun W (hW : Below w.heap.size w W) => scr_All (itemsT note.data.toList os) true hok1 (by unfold linesOf; simp) (by omega) (by rw [text_lines_nothing, ← ht, List.length_append]; have : nothingL.length = 7 := rfl; omega) W (HT.out.below hW)
          rw [text_lines_nothing, ← ht] at hall2
          have happ : (⟨(t ++ nothingL).toArray⟩ : ByteArray) = ⟨t.toArray⟩ ++ ⟨#[110, 111, 116, 104, 105, 110, 103]⟩ := (data_app t nothingL).symm
          rw [happ] at hall2
          have HA1 := Lib.hid hall1
          have HA2 := Lib.hid hall2
          have HR := Lib.hid (fun W A2 c2 (h1 : OpsRead W A2 c2 os) (h2 : OpsRead W A c os) => ref_All os (fun o ho => (hok o ho).1) (by omega) A2 c2 A c W h1 h2)
          have H3 := Lib.hid hlen3
          have HB := Lib.hid hb
          clear hall1 hall2 hlen3 hok1 hok2 ht hok hb hkn happ HK
          go_wp2_with (go_at_call 11; refine (HA1.out _ HB.out).mono ?_)
          rintro e w5 ⟨hb5, ha5, -⟩
          obtain ⟨v, he, hO5⟩ := ha5 rfl
          subst he
          rw [itemsT_ops2] at hO5
          obtain ⟨A5, c5, rfl, hR5⟩ := hO5.read
          have hw5 : Below w.heap.size w w5 := HB.out.trans (hb5.mono HB.out.size)
          have H5 := Lib.hid (And.intro hw5 hR5)
          rw [Hn.out]
          clear hw5 hR5 hO5 hb5 ha5
          go_wp2_with (go_at_call 11; refine (HA2.out _ H5.out.1).mono ?_)
          rintro e w6 ⟨hb6, -, ha6⟩
          have he := ha6 rfl
          subst he
          rw [H3.out, Hn.out]
          have hw6 : Below w.heap.size w w6 := H5.out.1.trans (hb6.mono H5.out.1.size)
          have hcall := HR.out w6 A5 c5 (H5.out.2.keep hb6) (HO.out.keep hw6)
          rw [Hn.out] at hcall
          have HC := Lib.hid hcall
          have H6 := Lib.hid hw6
          have hcast : ((3 * n : Nat) : Int) = 3 * (n : Int) := by omega
          rw [hcast]
          clear hw6 hcall hb6 ha6 hcast
          go_wp2_with (go_at_call 12; refine HC.out.mono ?_)
          rintro e w7 ⟨rfl, hb7⟩
          have H7 := Lib.hid hb7
          clear hb7
          go_wp2_with fail
          go_ret
          exact ⟨rfl, H6.out.trans (H7.out.mono H6.out.size)⟩

end Go.Proofs.YtkgkhcfonlhphaaGreatDoor
