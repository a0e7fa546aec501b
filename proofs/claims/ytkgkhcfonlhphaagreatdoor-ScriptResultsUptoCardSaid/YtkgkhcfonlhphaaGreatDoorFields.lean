/- Contracts of an operation's fields: what shows them and what takes them. -/
import Derived.Test.YtkgkhcfonlhphaaGreatDoorScrResult
import Derived.Laws.EntriesVeiled
namespace Go.Proofs.YtkgkhcfonlhphaaGreatDoor
open Go.RowKit

theorem empty_of_size {v : ByteArray} (h : v.size = 0) : v = ⟨#[]⟩ := by
  obtain ⟨⟨l⟩⟩ := v
  cases l with
  | nil => rfl
  | cons _ _ => simp [ByteArray.size] at h

/-- the function tells the place `o + j` of an operation -/
def AtFn (F : Nat) (j : Nat) : Prop := (∀ args w, (callFunc F args).run Tryz.prog w = .ok (.enter F args) w) ∧ ∀ (p o : Nat) (w : World), Calls Tryz.prog F #[.pointer (some ⟨p, o, none⟩)] w fun e w' => e = .returned (.pointer (some ⟨p, o + j, none⟩)) ∧ w = w'

theorem at1 : AtFn 44 1 := by
  refine ⟨fun args w => by go_simp, ?_⟩
  intro p o w
  go_enter Tryz.func44, Tryz.ntmps44
  go_wp2
  go_ret
  exact ⟨rfl, rfl⟩
theorem at2 : AtFn 45 2 := by
  refine ⟨fun args w => by go_simp, ?_⟩
  intro p o w
  go_enter Tryz.func45, Tryz.ntmps45
  go_wp2
  go_ret
  exact ⟨rfl, rfl⟩
theorem at3 : AtFn 46 3 := by
  refine ⟨fun args w => by go_simp, ?_⟩
  intro p o w
  go_enter Tryz.func46, Tryz.ntmps46
  go_wp2
  go_ret
  exact ⟨rfl, rfl⟩
theorem at4 : AtFn 48 4 := by
  refine ⟨fun args w => by go_simp, ?_⟩
  intro p o w
  go_enter Tryz.func48, Tryz.ntmps48
  go_wp2
  go_ret
  exact ⟨rfl, rfl⟩
theorem at5 : AtFn 49 5 := by
  refine ⟨fun args w => by go_simp, ?_⟩
  intro p o w
  go_enter Tryz.func49, Tryz.ntmps49
  go_wp2
  go_ret
  exact ⟨rfl, rfl⟩
theorem at6 : AtFn 50 6 := by
  refine ⟨fun args w => by go_simp, ?_⟩
  intro p o w
  go_enter Tryz.func50, Tryz.ntmps50
  go_wp2
  go_ret
  exact ⟨rfl, rfl⟩
theorem at7 : AtFn 51 7 := by
  refine ⟨fun args w => by go_simp, ?_⟩
  intro p o w
  go_enter Tryz.func51, Tryz.ntmps51
  go_wp2
  go_ret
  exact ⟨rfl, rfl⟩
theorem at8 : AtFn 52 8 := by
  refine ⟨fun args w => by go_simp, ?_⟩
  intro p o w
  go_enter Tryz.func52, Tryz.ntmps52
  go_wp2
  go_ret
  exact ⟨rfl, rfl⟩
theorem at9 : AtFn 53 9 := by
  refine ⟨fun args w => by go_simp, ?_⟩
  intro p o w
  go_enter Tryz.func53, Tryz.ntmps53
  go_wp2
  go_ret
  exact ⟨rfl, rfl⟩

set_option maxRecDepth 100000 in
theorem show_num (F j p b : Nat) (v : Int) (t : List UInt8) (ht : t = if v = 0 then [] else Lib.itoa v) (w : World) (hF : AtFn F j) (hb : w.cell? ⟨b, 0, none⟩ = some (.func (.func F) #[] #[])) (hv : w.cell? ⟨p, j, none⟩ = some (.int .i64 v)) (hI : I64 v) (hT : Pow10 w) :
    Calls Tryz.prog 68 #[.pointer (some ⟨p, 0, none⟩), .pointer (some ⟨b, 0, none⟩)] w fun e w' => e = .returned (.string ⟨t.toArray⟩) ∧ Below w.heap.size w w' := by
  have H := Lib.hid hF
  clear hF
  go_enter Tryz.func68, Tryz.ntmps68
  go_wp2_with fail
  rw [H.out.1, Oper.upon_enter]
  refine (H.out.2 p 0 _).mono ?_
  rintro e w' ⟨rfl, rfl⟩
  by_cases hz : v = 0
  · have hz0 : (v == 0) = true := by simp [hz]
    rw [if_pos hz] at ht
    subst ht
    go_wp2_with fail
    go_ret
    exact ⟨rfl, Below.refl _ _⟩
  · have hz0 : (v == 0) = false := by simp [hz]
    rw [if_neg hz] at ht
    subst ht
    go_wp2_with fail
    rw [H.out.1, Oper.upon_enter]
    refine (H.out.2 p 0 _).mono ?_
    rintro e w' ⟨rfl, rfl⟩
    go_wp2_with (go_at_call 17; refine (itoa_any v hI.1 hI.2 _ hT).mono ?_)
    rintro e w' ⟨rfl, hbe⟩
    go_wp2_with fail
    go_ret
    exact ⟨rfl, hbe⟩

set_option maxRecDepth 100000 in
theorem show_text (F j p b : Nat) (v : ByteArray) (t : List UInt8) (ht : t = if v.size = 0 then [] else quoteL v.data.toList) (w : World) (hF : AtFn F j) (hb : w.cell? ⟨b, 0, none⟩ = some (.func (.func F) #[] #[])) (hv : w.cell? ⟨p, j, none⟩ = some (.string v)) (hI : v.size ≤ 1099511627776) (hT : Lib.Utf8Tabs 1 2 w) :
    Calls Tryz.prog 71 #[.pointer (some ⟨p, 0, none⟩), .pointer (some ⟨b, 0, none⟩)] w fun e w' => e = .returned (.string ⟨t.toArray⟩) ∧ Below w.heap.size w w' := by
  have H := Lib.hid hF
  clear hF
  go_enter Tryz.func71, Tryz.ntmps71
  go_wp2_with fail
  rw [H.out.1, Oper.upon_enter]
  refine (H.out.2 p 0 _).mono ?_
  rintro e w' ⟨rfl, rfl⟩
  by_cases hz : v.size = 0
  · have hz0 : v.toList.isEmpty = true := by rw [← decide_eq_emptyBytes]; exact decide_eq_true (empty_of_size hz)
    rw [if_pos hz] at ht
    subst ht
    go_wp2_with fail
    go_ret
    exact ⟨rfl, Below.refl _ _⟩
  · have hz0 : v.toList.isEmpty = false := by rw [← decide_eq_emptyBytes]; exact decide_eq_false (fun h => hz (by rw [h]; rfl))
    rw [if_neg hz] at ht
    subst ht
    go_wp2_with fail
    rw [H.out.1, Oper.upon_enter]
    refine (H.out.2 p 0 _).mono ?_
    rintro e w' ⟨rfl, rfl⟩
    go_wp2_with (go_at_call 15; refine (scr_Quote v _ hI hT).mono ?_)
    rintro e w' ⟨rfl, hbe⟩
    go_wp2_with fail
    go_ret
    exact ⟨rfl, hbe⟩

theorem below_conv {f : Nat} {args : Array Value} {v : Value} {w : World} (h : Calls Tryz.prog f args w fun e w' => e = .returned v ∧ (w' = w ∨ ∃ t, w' = Lib.bytesWorld w 5 t)) :
    Calls Tryz.prog f args w fun e w' => e = .returned v ∧ Below w.heap.size w w' := by
  refine h.mono ?_
  rintro e w' ⟨rfl, rfl | ⟨t, rfl⟩⟩
  · exact ⟨rfl, Below.refl _ _⟩
  · exact ⟨rfl, rfl, rfl, rfl, by rw [Lib.bytesWorld_size]; omega, fun k hk => Lib.bytesWorld_at_old _ _ _ k hk⟩

set_option maxRecDepth 100000 in
theorem take_num (F j p b : Nat) (t : ByteArray) (n : Int) (old : Value) (w : World) (hF : AtFn F j) (hb : w.cell? ⟨b, 0, none⟩ = some (.func (.func F) #[] #[])) (hv : w.cell? ⟨p, j, none⟩ = some old) (hfr : w.frozen? ⟨p, j, none⟩ = false) (hblt : b < w.heap.size) (hts : t.size ≤ 100) (hn : Lib.atoiAll t.data.toList = .ok n) (hplt : p < w.heap.size) :
    Calls Tryz.prog 69 #[.pointer (some ⟨p, 0, none⟩), .string t, .pointer (some ⟨b, 0, none⟩)] w fun e w' => e = .returned (.bool true) ∧ ∃ w1, Below w.heap.size w w1 ∧ w' = w1.setCell ⟨p, j, none⟩ (.int .i64 n) := by
  have H := Lib.hid hF
  clear hF
  go_enter Tryz.func69, Tryz.ntmps69
  go_wp2_with (go_at_call 70; refine (below_conv (Tryz.strconv_Atoi_ok t (by omega) n hn _)).mono ?_)
  rintro e w1 ⟨rfl, hbe⟩
  have hb1 : w1.cell? ⟨b, 0, none⟩ = some (.func (.func F) #[] #[]) := by rw [hbe.cell hblt]; exact hb
  have hv1 : w1.cell? ⟨p, j, none⟩ = some old := by rw [hbe.cell hplt]; exact hv
  have hfr1 : w1.frozen? ⟨p, j, none⟩ = false := by rw [hbe.frozen hplt]; exact hfr
  go_wp2_with fail
  rw [H.out.1, Oper.upon_enter]
  refine (H.out.2 p 0 _).mono ?_
  rintro e w' ⟨rfl, rfl⟩
  go_wp2_with fail
  go_ret
  exact ⟨rfl, _, hbe, rfl⟩

end Go.Proofs.YtkgkhcfonlhphaaGreatDoor
