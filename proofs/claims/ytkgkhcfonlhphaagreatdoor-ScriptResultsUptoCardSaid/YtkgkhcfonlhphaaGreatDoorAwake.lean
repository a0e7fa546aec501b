/- The laws' awake: the document's example holds. Conditions: the tables as laid. -/
import Derived.Test.YtkgkhcfonlhphaaGreatDoorRefAll
namespace Go.Proofs.YtkgkhcfonlhphaaGreatDoor
open Go.RowKit

def op0 : OpV := ⟨7, 1, 2, 0, ⟨#[98]⟩, ⟨#[107]⟩, ⟨#[97, 37]⟩, 0, 0, 0, []⟩
def opOpen : OpV := ⟨0, 0, 0, 0, ⟨#[]⟩, ⟨#[]⟩, ⟨#[]⟩, 0, 0, 0, []⟩
def opSnap : OpV := ⟨11, 0, 1, 0, ⟨#[]⟩, ⟨#[]⟩, ⟨#[]⟩, 0, 0, 0, []⟩
def res0 : ResV := ⟨0, 3, [], 0, 0, 0, 0, []⟩
def items0 : List Item := [([35, 32, 110, 111, 116, 101], none), ([111, 112, 101, 110], some opOpen), ([], none), ([115, 110, 97, 112, 32, 115, 101, 115, 115, 105, 111, 110, 61, 49], some opSnap)]

theorem op0_ok : op0.ok := ⟨⟨by decide, by decide⟩, ⟨by decide, by decide⟩, ⟨by decide, by decide⟩, ⟨by decide, by decide⟩, ⟨by decide, by decide⟩, ⟨by decide, by decide⟩, ⟨by decide, by decide⟩, by decide, by decide, by decide, by decide, by intro k hk; cases hk⟩
theorem opOpen_ok : opOpen.ok := ⟨⟨by decide, by decide⟩, ⟨by decide, by decide⟩, ⟨by decide, by decide⟩, ⟨by decide, by decide⟩, ⟨by decide, by decide⟩, ⟨by decide, by decide⟩, ⟨by decide, by decide⟩, by decide, by decide, by decide, by decide, by intro k hk; cases hk⟩
theorem opSnap_ok : opSnap.ok := ⟨⟨by decide, by decide⟩, ⟨by decide, by decide⟩, ⟨by decide, by decide⟩, ⟨by decide, by decide⟩, ⟨by decide, by decide⟩, ⟨by decide, by decide⟩, ⟨by decide, by decide⟩, by decide, by decide, by decide, by decide, by intro k hk; cases hk⟩
theorem res0_ok : res0.ok := ⟨⟨by decide, by decide⟩, ⟨by decide, by decide⟩, (by intro r h; cases h), by decide, ⟨by decide, by decide⟩, ⟨by decide, by decide⟩, ⟨by decide, by decide⟩, ⟨by decide, by decide⟩, (by intro r h; cases h), by decide⟩

theorem show0 : showL op0 = [112, 117, 116, 32, 108, 101, 118, 101, 108, 61, 49, 32, 115, 101, 115, 115, 105, 111, 110, 61, 50, 32, 98, 117, 99, 107, 101, 116, 61, 34, 98, 34, 32, 107, 101, 121, 61, 34, 107, 34, 32, 118, 97, 108, 117, 101, 61, 34, 97, 37, 50, 53, 34] := by decide +kernel
theorem showOpen : showL opOpen = [111, 112, 101, 110] := by decide +kernel
theorem showSnap : showL opSnap = [115, 110, 97, 112, 32, 115, 101, 115, 115, 105, 111, 110, 61, 49] := by decide +kernel
theorem result0 : resultL res0 = [101, 61, 48, 32, 110, 61, 51] := by decide +kernel

theorem items0_ok : ∀ x ∈ items0, ItemOk x := by
  intro x hx
  simp only [items0, List.mem_cons, List.not_mem_nil, or_false] at hx
  rcases hx with rfl | rfl | rfl | rfl
  · exact .inl ⟨rfl, .inr ⟨_, rfl⟩, by decide⟩
  · exact .inr ⟨_, rfl, opOpen_ok, ⟨by decide, by decide⟩, showOpen.symm⟩
  · exact .inl ⟨rfl, .inl rfl, by decide⟩
  · exact .inr ⟨_, rfl, opSnap_ok, ⟨by decide, by decide⟩, showSnap.symm⟩

theorem keep_none {o : OpV} (h : o.keep = []) (w : World) (A : Option Addr) (c : Nat) : KeepAt w o A c := by
  unfold KeepAt Reads
  rw [h]
  exact ⟨Nat.zero_le _, rfl, fun h => absurd h (by decide)⟩

set_option maxHeartbeats 1000000 in
set_option maxRecDepth 100000 in
theorem law_awake (w : World) (hT : Tabs3 w) : Calls Tryz.prog 5 #[] w fun e w' => e = .returned (.bool true) ∧ Below w.heap.size w w' := by
  have hShow := fun W (hW : Below w.heap.size w W) => scr_Show op0 op0_ok none 0 W (keep_none rfl _ _ _) (hT.below hW).tabs2
  have hParse := fun W (hW : Below w.heap.size w W) => parse_show op0 op0_ok ⟨by decide, by decide⟩ W (hT.below hW)
  have hQuote := fun W (hW : Below w.heap.size w W) => scr_Quote ⟨#[97, 34, 255]⟩ W (by decide) (hT.below hW).tabs2.tabs.utf
  have hUnq := fun W (hW : Below w.heap.size w W) => scr_Unquote_quote ⟨#[97, 34, 255]⟩ W (by decide) (hT.below hW).tabs2.tabs.utf
  have hAll := fun W (hW : Below w.heap.size w W) => scr_All items0 false items0_ok (by decide) (by decide) (by decide) W (hT.below hW)
  have hRes := fun W (hW : Below w.heap.size w W) => scr_Result res0 none 0 0 none 0 0 W res0_ok ⟨rfl, rfl, Nat.le_refl _, Nat.le_refl _, .none_, .none_⟩ (hT.below hW).tabs2.tabs
  have hSame := fun W A c => ref_Same op0 op0_ok A none c 0 W (keep_none rfl _ _ _) (keep_none rfl _ _ _)
  rw [show0] at hShow hParse
  rw [result0] at hRes
  have HShow := Lib.hid hShow
  have HParse := Lib.hid hParse
  have HQuote := Lib.hid hQuote
  have HUnq := Lib.hid hUnq
  have HAll := Lib.hid hAll
  have HRes := Lib.hid hRes
  have HSame := Lib.hid hSame
  clear hShow hParse hQuote hUnq hAll hRes hSame hT
  go_enter Tryz.func5, Tryz.ntmps5
  go_wp2_with (go_at_call 10; refine (HShow.out _ ((Below.refl _ _).alloc (Nat.le_refl _) _)).mono ?_)
  intro e w1 he hb1
  subst he
  have hO1 : OpAt w1 w.heap.size (op0.cells none 0) := OpAt.below (heap_alloc_new w (.cells (op0.cells none 0) 36)) (hb1.mono (by simp) : Below (w.alloc (.cells (op0.cells none 0) 36)).heap.size (w.alloc (.cells (op0.cells none 0) 36)) w1)
  have hw1 : Below w.heap.size w w1 := ((Below.refl _ _).alloc (Nat.le_refl _) _).trans (hb1.mono (by simp))
  have H1 := Lib.hid (And.intro hO1 hw1)
  clear hb1 hO1 hw1
  go_wp2_with (go_at_call 13; refine (HParse.out _ H1.out.2).mono ?_)
  rintro e w2 ⟨hb2, A, c, he, -, -⟩
  subst he
  have H2 := Lib.hid hb2
  clear hb2
  simp only [op0, OpV.cells, List.length_nil]
  obtain ⟨box, hbox⟩ : ∃ b : Obj, Obj.cells #[.int .i64 7, .int .i64 1, .int .i64 2, .int .i64 0, .string ⟨#[98]⟩, .string ⟨#[107]⟩, .string ⟨#[97, 37]⟩, .int .i64 0, .int .i64 0, .int .i64 0, .slice A 0 c] 36 = b := ⟨_, rfl⟩
  have hw3 : Below w.heap.size w (w2.alloc box) := (H1.out.2.trans (H2.out.mono H1.out.2.size)).alloc (by have h1 := H1.out.2.size; have h2 := H2.out.size; omega) _
  have hO3 : OpAt (w2.alloc box) w2.heap.size (op0.cells A c) := by rw [← hbox]; exact heap_alloc_new w2 (.cells (op0.cells A c) 36)
  have hO3' : OpAt (w2.alloc box) w.heap.size (op0.cells none 0) := (H1.out.1.below H2.out).below ((Below.refl _ _).alloc (Nat.le_refl _) _)
  have H3 := Lib.hid (And.intro hw3 (And.intro hO3 hO3'))
  have hs3 : (w2.alloc box).heap.size = w2.heap.size + 1 := by simp
  have H4 := Lib.hid hs3
  clear hw3 hO3 hO3' hs3
  rw [← hbox] at H3 H4
  clear hbox box
  go_wp2_with (go_at_call 15; refine (HQuote.out _ H3.out.1).mono ?_)
  rintro e w4 ⟨rfl, hb4⟩
  go_wp2_with (go_at_call 14; refine (HUnq.out _ (H3.out.1.trans (hb4.mono H3.out.1.size))).mono ?_)
  rintro e w5 ⟨rfl, hb5⟩
  have hw5 : Below w.heap.size w w5 := (H3.out.1.trans (hb4.mono H3.out.1.size)).trans (hb5.mono (by have h1 := H3.out.1.size; have h2 := hb4.size; omega))
  have hO5 := (H3.out.2.1.below hb4).below hb5
  have hO5' := (H3.out.2.2.below hb4).below hb5
  have H5 := Lib.hid (And.intro hw5 (And.intro hO5 hO5'))
  clear hb4 hb5 hw5 hO5 hO5'
  go_wp2_with (go_at_call 11; refine (HAll.out _ H5.out.1).mono ?_)
  rintro e w6 ⟨hb6, ha6, -⟩
  obtain ⟨v, he, hO⟩ := ha6 rfl
  subst he
  obtain ⟨Av, cv, rfl, -⟩ := hO.read
  rw [show (opsOf items0).length = 2 from rfl]
  have hw6 : Below w.heap.size w w6 := H5.out.1.trans (hb6.mono H5.out.1.size)
  have hO6 := H5.out.2.1.below hb6
  have hO6' := H5.out.2.2.below hb6
  have e0 := (hO6.cell (j := 0) rfl).1
  have e1 := (hO6.cell (j := 1) rfl).1
  have e2 := (hO6.cell (j := 2) rfl).1
  have e3 := (hO6.cell (j := 3) rfl).1
  have e4 := (hO6.cell (j := 4) rfl).1
  have e5 := (hO6.cell (j := 5) rfl).1
  have e6 := (hO6.cell (j := 6) rfl).1
  have e7 := (hO6.cell (j := 7) rfl).1
  have e8 := (hO6.cell (j := 8) rfl).1
  have e9 := (hO6.cell (j := 9) rfl).1
  have e10 := (hO6.cell (j := 10) rfl).1
  have d0 := (hO6'.cell (j := 0) rfl).1
  have d1 := (hO6'.cell (j := 1) rfl).1
  have d2 := (hO6'.cell (j := 2) rfl).1
  have d3 := (hO6'.cell (j := 3) rfl).1
  have d4 := (hO6'.cell (j := 4) rfl).1
  have d5 := (hO6'.cell (j := 5) rfl).1
  have d6 := (hO6'.cell (j := 6) rfl).1
  have d7 := (hO6'.cell (j := 7) rfl).1
  have d8 := (hO6'.cell (j := 8) rfl).1
  have d9 := (hO6'.cell (j := 9) rfl).1
  have d10 := (hO6'.cell (j := 10) rfl).1
  simp only [op0, OpV.cells, List.length_nil, List.getElem_toArray, List.getElem_cons_zero, List.getElem_cons_succ] at e0 e1 e2 e3 e4 e5 e6 e7 e8 e9 e10 d0 d1 d2 d3 d4 d5 d6 d7 d8 d9 d10
  have hS : Calls Tryz.prog 16 #[.agg #[.int .i64 7, .int .i64 1, .int .i64 2, .int .i64 0, .string ⟨#[98]⟩, .string ⟨#[107]⟩, .string ⟨#[97, 37]⟩, .int .i64 0, .int .i64 0, .int .i64 0, .slice A 0 c], .agg #[.int .i64 7, .int .i64 1, .int .i64 2, .int .i64 0, .string ⟨#[98]⟩, .string ⟨#[107]⟩, .string ⟨#[97, 37]⟩, .int .i64 0, .int .i64 0, .int .i64 0, .slice none 0 0]] w6 fun e w' => e = .returned (.bool true) ∧ Below w6.heap.size w6 w' := HSame.out w6 A c
  have HS := Lib.hid hS
  have H6 := Lib.hid hw6
  clear hS hw6 hO6 hO6' hO hb6 ha6
  go_wp2_with (go_at_call 16; refine HS.out.mono ?_)
  rintro e w7 ⟨rfl, hb7⟩
  have hw7 : Below w.heap.size w w7 := H6.out.trans (hb7.mono H6.out.size)
  have hR : Calls Tryz.prog 6 #[.agg #[.int .i64 0, .int .i64 3, .slice none 0 0, .int .i64 0, .int .i64 0, .int .i64 0, .int .i64 0, .slice none 0 0]] w7 fun e w' => e = .returned (.string ⟨#[101, 61, 48, 32, 110, 61, 51]⟩) ∧ Below w7.heap.size w7 w' := HRes.out w7 hw7
  have HR := Lib.hid hR
  have H7 := Lib.hid hw7
  clear hR hw7 hb7
  go_wp2_with (go_at_call 6; refine HR.out.mono ?_)
  rintro e w8 ⟨rfl, hb8⟩
  have H8 := Lib.hid hb8
  clear hb8
  go_wp2_with fail
  go_ret
  exact ⟨rfl, H7.out.trans (H8.out.mono H7.out.size)⟩

end Go.Proofs.YtkgkhcfonlhphaaGreatDoor
