/- The contract of script.Show: the plain text. Conditions: an operation of bounded texts; the tables as laid. -/
import Derived.Test.YtkgkhcfonlhphaaGreatDoorOpv
import Derived.Deep.DeepCutAuto
namespace Go.Proofs.YtkgkhcfonlhphaaGreatDoor
open Go.RowKit

def OpV.box (o : OpV) (A : Option Addr) (c : Nat) : Obj := .cells (o.cells A c) 36

/-- the slice of the texts kept lies below `B` -/
def KeepAt (w : World) (o : OpV) (A : Option Addr) (c : Nat) : Prop := o.keep.length ≤ c ∧ Reads w w.heap.size 1 A o.keep.length (o.keep.map Value.string)

theorem bytes_eta' (s : ByteArray) : (⟨s.data.toList.toArray⟩ : ByteArray) = s := by cases s; simp

theorem showW_ne (o : OpV) (k : Nat) : (nameB o.kind).data.toList :: (List.range k).flatMap (fieldW o) ≠ [] := by simp

theorem off_new {v : Value} {g : Nat} {bs : List Nat} {w : World} {v' : Value} (h : OffFields v g bs) (hg : g < w.heap.size) (hb : ∀ b ∈ bs, b < w.heap.size) (hv : v'.ownBlock = v.ownBlock ∨ v'.ownBlock = some w.heap.size) : OffFields v' g bs := by
  intro q hq
  rcases hv with e | e
  · exact h q (by rw [← e]; exact hq)
  · rw [e] at hq
    cases hq
    exact ⟨by omega, fun hm => by have := hb _ hm; omega⟩

set_option maxHeartbeats 1000000 in
set_option maxRecDepth 100000 in
theorem scr_Show (o : OpV) (ho : o.ok) (A : Option Addr) (c : Nat) (w : World) (hA : KeepAt w o A c) (hT : Tabs2 w) :
    Calls Tryz.prog 10 #[.agg (o.cells A c)] w fun e w' => e = .returned (.string ⟨(showL o).toArray⟩) ∧ Below w.heap.size w w' := by
  obtain ⟨i0, hi, hz0, hz1, hz2⟩ := info_parts str_info
  have hT0 : Tabs2 (w.alloc (o.box A c)) := hT.below ((Below.refl _ _).alloc (Nat.le_refl _) _)
  have hcells : ∀ j v, (o.cells A c)[j]? = some v → (w.alloc (o.box A c)).cell? ⟨w.heap.size, j, none⟩ = some v := by
    intro j v h
    simp [OpV.box, h]
  have hc0 : (w.alloc (o.box A c)).cell? ⟨w.heap.size, 0, none⟩ = some (.int .i64 o.kind) := hcells 0 _ rfl
  have hbx : w.alloc (.cells (o.cells A c) 36) = w.alloc (o.box A c) := rfl
  have hws0 : w.heap.size < (w.alloc (o.box A c)).heap.size := by simp
  generalize hw0 : w.alloc (o.box A c) = w0 at *
  have hgw : Below w.heap.size w w0 := by rw [← hw0]; exact (Below.refl _ _).alloc (Nat.le_refl _) _
  have HW0 := Lib.hid hw0
  have Hcells := Lib.hid hcells
  have HT0 := Lib.hid hT0
  clear hw0 hcells hT0
  have hk := ho.kind
  generalize hS : showL o = S
  have HS := Lib.hid hS
  clear hS
  have HG := Lib.hid hgw
  clear hgw
  have HA := Lib.hid hA
  clear hA
  have Ho := Lib.hid ho
  clear ho hT
  generalize hcs : o.cells A c = cs at *
  have Hcs := Lib.hid hcs
  clear hcs
  go_enter Tryz.func10, Tryz.ntmps10
  obtain ⟨l, hl⟩ : ∃ l : List UInt8, nameB o.kind = ⟨l.toArray⟩ := ⟨_, (bytes_eta' _).symm⟩
  have hname := op_Name o.kind hk w0 HT0.out.names
  rw [hl] at hname
  have Hl := Lib.hid hl
  have Hname := Lib.hid hname
  clear hl hname
  go_wp2_with (go_at_call 24; refine Hname.out.mono ?_)
  rintro e w' ⟨rfl, rfl⟩
  cases hem : l.isEmpty with
  | true =>
    have hl0 : (nameB o.kind).size = 0 := by
      rw [Hl.out, List.isEmpty_iff.1 hem]
      rfl
    have hS0 : S = [] := by rw [← HS.out]; exact if_pos hl0
    subst hS0
    clear hl0
    go_wp2_with fail
    go_ret
    exact ⟨rfl, HG.out⟩
  | false =>
    have hl0 : ¬ (nameB o.kind).size = 0 := by
      rw [Hl.out]
      intro h
      have : l = [] := List.length_eq_zero_iff.1 (by simpa [ByteArray.size] using h)
      rw [this] at hem
      cases hem
    have HS1 := Lib.hid (HS.out.symm.trans (if_neg hl0))
    clear hl0
    have hW1 := words_lit w0 l w0.heap.size (Nat.le_refl _)
    have hg1 : Below w0.heap.size w0 (w0.alloc (.cells #[.string ⟨l.toArray⟩] 9)) := (Below.refl _ _).alloc (Nat.le_refl _) _
    have hs1 : (w0.alloc (.cells #[.string ⟨l.toArray⟩] 9)).heap.size = w0.heap.size + 1 := by simp
    go_wp2_with (go_at_call 25; refine (fields_any _).mono ?_)
    rintro e w1 ⟨g, rfl, ⟨bs, hF, hbl⟩, hb1, hgl⟩
    have hW := hW1.keep hb1
    have hg := hg1.trans (hb1.mono (by omega))
    have hoff : OffFields (.slice (some ⟨w0.heap.size, 0, none⟩) 1 1) g bs := by
      intro q hq
      have hq' : w0.heap.size = q := Option.some.inj hq
      exact ⟨by omega, fun hm => by have := hbl _ hm; omega⟩
    clear hW1 hg1 hb1
    have hs2 : w0.heap.size < w1.heap.size := by have := hF.glt; omega
    clear hs1 hgl hbl
    go_wp2_with fail
    go_loopw [4, 19] (fun s i wr => ∃ (k : Nat) (ws : List (List UInt8)), k ≤ 9 ∧ i = .int .i64 (k : Int) ∧ WordsAt w0.heap.size s ws wr ∧ ws = l :: (List.range k).flatMap (fieldW o) ∧ Below w0.heap.size w0 wr ∧ FieldsAt wr g bs ∧ OffFields s g bs) (fun _ i _ => 9 - (intOf i).toNat)
    case atStart => exact ⟨0, _, by omega, rfl, hW, by simp, hg, hF, hoff⟩
    case round =>
      clear hW hF hg hoff
      obtain ⟨k, ws, hk9, rfl, hW, hwe, hg, hF, hoff⟩ := hrel
      have hlw : ws.length ≤ 10 := by
        have := words_upto o k
        rw [hwe]
        simp only [List.length_cons]
        omega
      have HW := Lib.hid hwe
      clear hwe
      have hws : w0.heap.size ≤ wr.heap.size := hg.size
      by_cases hlt : k < 9
      · obtain ⟨x, hx⟩ : ∃ x, fieldKeys[k]? = some x := ⟨_, List.getElem?_eq_getElem (show k < fieldKeys.length from hlt)⟩
        obtain ⟨b, hb⟩ : ∃ b, bs[k]? = some b := ⟨_, List.getElem?_eq_getElem (show k < bs.length by rw [hF.len]; exact hlt)⟩
        have e0 : wr.cell? ⟨g, k * 3, none⟩ = _ := hF.row (k * 3) _ (field_get bs k x b 0 hx hb (by omega))
        have e1 := hF.row (k * 3 + 1) _ (field_get bs k x b 1 hx hb (by omega))
        have e2 := hF.row (k * 3 + 2) _ (field_get bs k x b 2 hx hb (by omega))
        have hbox := hF.box k x b hx hb
        have hblt := hF.blt b (List.mem_of_getElem? hb)
        have hEn := (show_enter k x hx).1
        have hgl := hF.glt
        have hfn := fieldN_of hx
        have hnz := fieldKeys_size hx
        obtain ⟨F, S1, T1, nm⟩ := x
        simp only at hfn hnz
        have Hfn := Lib.hid hfn
        clear hfn
        simp only at e0 e1 e2 hbox hEn
        have hgA : Below w0.heap.size w0 (wr.alloc (.cells #[.string nm, .func (.func S1) #[] #[.pointer (some ⟨b, 0, none⟩)], .func (.func T1) #[] #[.pointer (some ⟨b, 0, none⟩)]] 64)) := hg.alloc hg.size _
        have hWA : WordsAt w0.heap.size u4 ws (wr.alloc (.cells #[.string nm, .func (.func S1) #[] #[.pointer (some ⟨b, 0, none⟩)], .func (.func T1) #[] #[.pointer (some ⟨b, 0, none⟩)]] 64)) := World.ownsRow.alloc hW _
        have hFA := hF.below (((Below.refl wr.heap.size wr).alloc (Nat.le_refl _) (.cells #[.string nm, .func (.func S1) #[] #[.pointer (some ⟨b, 0, none⟩)], .func (.func T1) #[] #[.pointer (some ⟨b, 0, none⟩)]] 64)))
        have hcA : ∀ j v, (o.cells A c)[j]? = some v → (wr.alloc (.cells #[.string nm, .func (.func S1) #[] #[.pointer (some ⟨b, 0, none⟩)], .func (.func T1) #[] #[.pointer (some ⟨b, 0, none⟩)]] 64)).cell? ⟨w.heap.size, j, none⟩ = some v := fun j v h => by
          rw [hgA.cell (p := ⟨w.heap.size, j, none⟩) hws0]
          exact Hcells.out j v (by rw [← Hcs.out]; exact h)
        have hTA := HT0.out.below hgA
        have hboxA := hFA.box k _ b hx hb
        have hsh := show_field k _ hx o Ho.out A c w.heap.size b _ hcA hboxA hTA.tabs
        simp only at hsh
        obtain ⟨t, ht⟩ : ∃ t, t = (fieldT o).getD k [] := ⟨_, rfl⟩
        rw [← ht] at hsh
        have Ht := Lib.hid ht
        have Hsh := Lib.hid hsh
        have nm0 : (wr.alloc (.cells #[.string nm, .func (.func S1) #[] #[.pointer (some ⟨b, 0, none⟩)], .func (.func T1) #[] #[.pointer (some ⟨b, 0, none⟩)]] 64)).cell? ⟨wr.heap.size, 0, none⟩ = some (.string nm) := by simp
        have hsz : (wr.alloc (.cells #[.string nm, .func (.func S1) #[] #[.pointer (some ⟨b, 0, none⟩)], .func (.func T1) #[] #[.pointer (some ⟨b, 0, none⟩)]] 64)).heap.size = wr.heap.size + 1 := by simp
        have Hg := Lib.hid (And.intro hgA (And.intro hWA (And.intro hFA (And.intro nm0 hsz))))
        clear hcA hTA hboxA ht hsh hgA hWA hFA nm0 hsz
        go_wp2_with (refine Hsh.out.mono ?_)
        obtain ⟨hgA, hWA, hFA, nm0, hsz⟩ := Hg.out
        clear Hg Hsh
        generalize hwA : wr.alloc (.cells #[.string nm, .func (.func S1) #[] #[.pointer (some ⟨b, 0, none⟩)], .func (.func T1) #[] #[.pointer (some ⟨b, 0, none⟩)]] 64) = wA at *
        rintro e w2 ⟨rfl, hb2⟩
        have hg2 := hgA.trans (hb2.mono (by have := hg.size; omega))
        have hF2 := hFA.below hb2
        have hW2 := hWA.keep hb2
        have nm2 : w2.cell? ⟨wr.heap.size, 0, none⟩ = some (.string nm) := by rw [hb2.cell (p := ⟨wr.heap.size, 0, none⟩) (by simp; omega)]; exact nm0
        have hs2 : wr.heap.size < w2.heap.size := by have := hb2.size; omega
        have HgA := Lib.hid (And.intro hg2 (And.intro hF2 hW2))
        clear hwA hgA hWA hFA nm0 hsz hb2 hg2 hF2 hW2 hg hF hW e0 e1 e2 hbox hEn
        cases htm : t.isEmpty with
        | true =>
          go_wp2_with fail
          obtain ⟨hg2, hF2, hW2⟩ := HgA.out
          refine ⟨⟨k + 1, ws, by omega, by go_num, hW2, ?_, hg2, hF2, hoff⟩, by simp [intOf]; omega⟩
          rw [words_step, HW.out]
          have e : fieldW o k = [] := by
            unfold fieldW
            rw [← Ht.out, List.isEmpty_iff.1 htm]
            rfl
          rw [e, List.append_nil]
        | false =>
          have htl := fieldT_length o Ho.out k
          rw [← Ht.out] at htl
          have hW2 := HgA.out.2.2
          go_wp2_with (at_builtin; refine wpList_append_own_at _ rfl _ _ 34 rfl w0.heap.size 9 i0 (.string ⟨#[]⟩) 1 16 Tryz.underlying34 hi hz0 hz1 hz2 rfl (by decide) _ _ _ rfl (hW2.alloc _) ⟨w2.heap.size, 0, none⟩ 1 1 [.string (nm ++ ⟨#[61]⟩ ++ ⟨t.toArray⟩)] rfl rfl ?c1 ?c2 ?c3 ?c4 ?c5 ?_)
          case c1 => exact cell_one_new _ _ _
          case c2 => intro u hu; simp at hu; subst hu; rfl
          case c3 => unfold maxLen; omega
          case c4 => omega
          case c5 => simp; omega
          intro v' w3 hown hgrow _ hplace
          go_wp2
          obtain ⟨hg2, hF2, _⟩ := HgA.out
          have hgA2 := hg2.alloc hg2.size (.cells #[.string (nm ++ ⟨#[61]⟩ ++ ⟨t.toArray⟩)] 9)
          have hsA2 : (w2.alloc (.cells #[.string (nm ++ ⟨#[61]⟩ ++ ⟨t.toArray⟩)] 9)).heap.size = w2.heap.size + 1 := by simp
          have hFA2 := hF2.below ((Below.refl w2.heap.size w2).alloc (Nat.le_refl _) (.cells #[.string (nm ++ ⟨#[61]⟩ ++ ⟨t.toArray⟩)] 9))
          have hoff' : OffFields v' g bs := off_new (w := w2.alloc (.cells #[.string (nm ++ ⟨#[61]⟩ ++ ⟨t.toArray⟩)] 9)) hoff hFA2.glt hFA2.blt (by rw [hsA2]; exact hplace)
          have hF3 := hFA2.grown hgrow hgrow.size hoff
          refine ⟨⟨k + 1, ws ++ [fieldN k ++ 61 :: t], by omega, by go_num, ?_, ?_, below_own hgA2 hgA2.size (hW2.alloc _) (Nat.le_refl _) hgrow, hF3, hoff'⟩, by simp [intOf]; omega⟩
          · have e : (nm ++ ⟨#[61]⟩ ++ ⟨t.toArray⟩ : ByteArray) = ⟨(fieldN k ++ 61 :: t).toArray⟩ := by
              rw [Hfn.out, ← bytes_eta' nm]
              simp only [data_app]
              simp
            rw [e] at hown
            exact words_snoc hown
          · rw [words_step, HW.out]
            have e : fieldW o k = [fieldN k ++ 61 :: t] := by
              unfold fieldW
              rw [← Ht.out, if_neg (fun h => by rw [h] at htm; cases htm)]
            rw [e]
            simp
      · have hk9' : k = 9 := by omega
        have HW2 := Lib.hid (show ws = l :: (List.range 9).flatMap (fieldW o) from by rw [HW.out, hk9'])
        clear hk9'
        clear HW hk9 hF hoff
        have c10 : wr.cell? ⟨w.heap.size, 10, none⟩ = some (.slice A o.keep.length c) := by
          rw [hg.cell (p := ⟨w.heap.size, 10, none⟩) hws0]
          exact Hcells.out 10 _ (by rw [← Hcs.out]; rfl)
        have hkl := Ho.out.keepN
        have hKc := HA.out.1
        go_wp2_with fail
        go_loopw [4, 40] (fun s i wr => ∃ (k : Nat) (us : List (List UInt8)), k ≤ o.keep.length ∧ i = .int .i64 (k : Int) ∧ WordsAt w0.heap.size s us wr ∧ us = ws ++ (o.keep.take k).map keepW ∧ Below w0.heap.size w0 wr) (fun _ i _ => o.keep.length - (intOf i).toNat)
        case atStart => exact ⟨0, _, by omega, rfl, hW, by simp, hg⟩
        case round =>
          clear hW hg c10
          obtain ⟨k, us, hk, rfl, hW, hue, hg⟩ := hrel
          have HU := Lib.hid hue
          clear hue
          by_cases hlt : k < o.keep.length
          · obtain ⟨b, of, rfl, hb, hcell⟩ := HA.out.2.2 (by omega)
            have hrk : o.keep[k]? = some o.keep[k] := List.getElem?_eq_getElem hlt
            have hrm : o.keep[k] ∈ o.keep := List.getElem_mem hlt
            generalize o.keep[k] = s at *
            have hs1 := Ho.out.keep _ hrm
            have hgw : Below w.heap.size w wr := HG.out.trans (hg.mono (by omega))
            have e0 : wr.cell? ⟨b, of + k, none⟩ = some (.string s) := by
              rw [hgw.cell (p := ⟨b, of + k, none⟩) hb]
              exact hcell k _ (by rw [List.getElem?_map, hrk]; rfl)
            have hTr := HT0.out.below hg
            have hql := quote_len s
            have hul : us.length ≤ 80 := by
              rw [HU.out]
              simp only [List.length_append, List.length_map, List.length_take]
              omega
            have hws : w0.heap.size ≤ wr.heap.size := hg.size
            go_wp2_with (go_at_call 15; refine (scr_Quote s _ (by omega) hTr.tabs.utf).mono ?_)
            rintro e w2 ⟨rfl, hb2⟩
            have hg2 := hg.trans (hb2.mono (by omega))
            have hW2 := hW.keep hb2
            have hws2 : w0.heap.size ≤ w2.heap.size := hg2.size
            go_wp2_with (at_builtin; refine wpList_append_own_at _ rfl _ _ 34 rfl w0.heap.size 9 i0 (.string ⟨#[]⟩) 1 16 Tryz.underlying34 hi hz0 hz1 hz2 rfl (by decide) _ _ _ rfl (hW2.alloc _) ⟨w2.heap.size, 0, none⟩ 1 1 [.string (⟨#[107, 101, 101, 112, 61]⟩ ++ ⟨(quoteL s.data.toList).toArray⟩)] rfl rfl ?d1 ?d2 ?d3 ?d4 ?d5 ?_)
            case d1 => exact cell_one_new _ _ _
            case d2 => intro u hu; simp at hu; subst hu; rfl
            case d3 => unfold maxLen; omega
            case d4 => omega
            case d5 => simp; omega
            intro v' w3 hown hgrow _ _
            go_wp2
            refine ⟨⟨k + 1, us ++ [keepW s], by omega, by go_num, ?_, ?_, below_own (hg2.alloc hg2.size _) (by simp; omega) (hW2.alloc _) (Nat.le_refl _) hgrow⟩, by simp [intOf]; omega⟩
            · rw [data_app] at hown
              exact words_snoc hown
            · rw [HU.out, List.take_add_one, hrk, List.map_append, ← List.append_assoc]
              rfl
          · have hkk : o.keep.take k = o.keep := List.take_of_length_le (by omega)
            have hwe2 : us = showW o := by
              rw [HU.out, hkk, HW2.out]
              unfold showW
              rw [Hl.out]
              simp
            have hne : us ≠ [] := by rw [hwe2]; simp [showW]
            have hul : us.length ≤ 80 := by
              rw [HU.out]
              simp only [List.length_append, List.length_map, List.length_take]
              omega
            obtain ⟨g2, cap, rfl, hgl, hcap, hcells⟩ := words_form hW hne
            have hj : Lib.join ((us.map (fun l => (⟨l.toArray⟩ : ByteArray))).map (·.data.toList)) [32] = S := by
              rw [List.map_map, show ((fun (x : ByteArray) => x.data.toList) ∘ fun l => (⟨l.toArray⟩ : ByteArray)) = id from funext fun l => by simp, List.map_id, hwe2]
              exact HS1.out.symm
            have hrl2 : S.length ≤ 400000 := by
              rw [HS1.out]
              exact showW_length o Ho.out
            have hjoin := Tryz.strings_Join g2 0 cap (us.map (fun l => (⟨l.toArray⟩ : ByteArray))) ⟨#[32]⟩ wr hcells hgl (by simp; omega) (by simpa using hcap) (by rw [show (⟨#[32]⟩ : ByteArray).data.toList = [32] from rfl, hj]; omega)
            rw [show (⟨#[32]⟩ : ByteArray).data.toList = [32] from rfl, hj, List.length_map] at hjoin
            have HJ := Lib.hid hjoin
            have hwsr : w0.heap.size ≤ wr.heap.size := hg.size
            clear hjoin hj hcells hwe2 hkk
            go_wp2_with (go_at_call 19; refine HJ.out.mono ?_)
            rintro e w2 ⟨rfl, hb2⟩
            go_wp2
            go_ret
            exact ⟨rfl, (HG.out.trans (hg.mono (by omega))).trans (hb2.mono (by omega))⟩

end Go.Proofs.YtkgkhcfonlhphaaGreatDoor
