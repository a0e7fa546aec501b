/- The law ScriptResults: true at every result whose texts are at most 2^20 bytes long. -/
import Derived.Test.YtkgkhcfonlhphaaGreatDoorAwake
namespace Go.Proofs.YtkgkhcfonlhphaaGreatDoor
open Go.RowKit

set_option maxHeartbeats 1000000 in
set_option maxRecDepth 100000 in
theorem law_ScriptResults (x : ResV) (A : Option Addr) (n c : Nat) (A2 : Option Addr) (n2 c2 : Nat) (w : World) (hE : I64 x.E) (hN : I64 x.N) (hlive : I64 x.live) (hfree : I64 x.free) (hwait : I64 x.wait) (hhigh : I64 x.high)
    (hrows : ∀ r ∈ x.rows, r.ok) (hrecs : ∀ r ∈ x.recs, r.ok) (hA : ResAt w x A n c A2 n2 c2) (hT : Tabs3 w) :
    Calls Tryz.prog 3 #[resVal x A n c A2 n2 c2] w fun e w' => e = .returned (.bool true) ∧ Below w.heap.size w w' := by
  have HA := Lib.hid hA
  have HT := Lib.hid hT
  have hn1 := hA.1
  have hn2 := hA.2.1
  have Hn1 := Lib.hid hn1
  have Hn2 := Lib.hid hn2
  have hAw := fun W (hW : Below w.heap.size w W) => law_awake W (hT.below hW)
  have HAw := Lib.hid hAw
  clear hA hT hn1 hn2 hAw
  obtain ⟨b0, hb0⟩ : ∃ v : Obj, resBox x A n c A2 n2 c2 = v := ⟨_, rfl⟩
  have hb1 : Below w.heap.size w (w.alloc b0) := (Below.refl _ _).alloc (Nat.le_refl _) _
  have Hb0 := Lib.hid hb0
  have Hb1 := Lib.hid hb1
  clear hb0 hb1
  have hgo : n ≤ 60 → n2 ≤ 60 → ∀ W, Below w.heap.size w W → (Calls Tryz.prog 6 #[resVal x A n c A2 n2 c2] W fun e w' => e = .returned (.string ⟨(resultL x).toArray⟩) ∧ Below W.heap.size W w') ∧
      (Calls Tryz.prog 7 #[resVal x A n c A2 n2 c2] W fun e w' => e = .returned (.string ⟨(resultL x).toArray⟩) ∧ Below W.heap.size W w') := by
    intro h1 h2 W hW
    have hok : x.ok := ⟨hE, hN, hrows, by rw [← Hn1.out]; exact h1, hlive, hfree, hwait, hhigh, hrecs, by rw [← Hn2.out]; exact h2⟩
    have hA := HA.out
    have hAW : ResAt W x A n c A2 n2 c2 := ⟨hA.1, hA.2.1, hA.2.2.1, hA.2.2.2.1, (hA.2.2.2.2.1.below hW).more hW.size, (hA.2.2.2.2.2.below hW).more hW.size⟩
    exact ⟨scr_Result x A n c A2 n2 c2 W hok hAW (HT.out.below hW).tabs2.tabs, ref_Result x A n c A2 n2 c2 W hok hAW⟩
  generalize (⟨(resultL x).toArray⟩ : ByteArray) = q at hgo
  have Hgo := Lib.hid hgo
  have hc1 : n ≤ c := HA.out.2.2.1
  have hc2 : n2 ≤ c2 := HA.out.2.2.2.1
  clear hgo hE hN hlive hfree hwait hhigh hrows hrecs HA Hn1 Hn2 HT
  obtain ⟨E, N, rows, live, free, wait, high, recs⟩ := x
  unfold resVal
  simp only
  go_enter Tryz.func3, Tryz.ntmps3
  go_wp2_with (go_at_call 5; rw [show (w.alloc (.cells #[.int .i64 E, .int .i64 N, .slice A n c, .int .i64 live, .int .i64 free, .int .i64 wait, .int .i64 high, .slice A2 n2 c2] 28)) = w.alloc b0 from by rw [← Hb0.out]; rfl]; refine (HAw.out _ Hb1.out).mono ?_)
  rintro e w1 ⟨rfl, hw1⟩
  have hO : w1.heap[w.heap.size]? = some (.cells #[.int .i64 E, .int .i64 N, .slice A n c, .int .i64 live, .int .i64 free, .int .i64 wait, .int .i64 high, .slice A2 n2 c2] 28) := by
    rw [hw1.block w.heap.size (by simp), heap_alloc_new, ← Hb0.out]
    rfl
  have e0 := cell_of_row w1 w.heap.size 0 _ _ _ hO
  have e1 := cell_of_row w1 w.heap.size 1 _ _ _ hO
  have e2 := cell_of_row w1 w.heap.size 2 _ _ _ hO
  have e3 := cell_of_row w1 w.heap.size 3 _ _ _ hO
  have e4 := cell_of_row w1 w.heap.size 4 _ _ _ hO
  have e5 := cell_of_row w1 w.heap.size 5 _ _ _ hO
  have e6 := cell_of_row w1 w.heap.size 6 _ _ _ hO
  have e7 := cell_of_row w1 w.heap.size 7 _ _ _ hO
  simp only [List.getElem?_toArray, List.getElem?_cons_zero, List.getElem?_cons_succ] at e0 e1 e2 e3 e4 e5 e6 e7
  have hlt : w.heap.size < w1.heap.size := (Array.getElem?_eq_some_iff.1 hO).1
  have hbw : Below w.heap.size w w1 := Hb1.out.trans (hw1.mono (by simp))
  have H1 := Lib.hid hbw
  clear hO hw1 hbw
  by_cases hr : n ≤ 60
  · by_cases hr2 : n2 ≤ 60
    · have hd1 : decide ((60 : Int) < (n : Int)) = false := by simp; omega
      have hd2 : decide ((60 : Int) < (n2 : Int)) = false := by simp; omega
      have hcall := fun W (hW : Gr w1 W) => Hgo.out hr hr2 W (H1.out.trans (hW.mono H1.out.size))
      have HC := Lib.hid hcall
      clear hcall
      have hqq : (q.toList == q.toList) = true := beq_self_eq_true _
      unfold resVal at HC
      go_wp2_with fail
      refine wp_region_grow (by kernel_rfl) (by kernel_rfl) ?_
      repeat (refine wpQuiet_step (fun K hK => ?_); go_simp; first | (refine hK _ ?_; clear hK K) | (apply Exists.intro; refine ⟨fun w' hw' => ?_, hK _ ?_⟩; (first | (rw [if_neg (by omega)]; exact ⟨rfl, rfl⟩) | (go_at_call 6; refine ((HC.out _ hw').1).mono ?_; rintro e w'' ⟨rfl, hb⟩; exact ⟨rfl, hw'.trans' hb⟩) | (go_at_call 7; refine ((HC.out _ hw').2).mono ?_; rintro e w'' ⟨rfl, hb⟩; exact ⟨rfl, hw'.trans' hb⟩) | (obtain ⟨hc, hf⟩ := bcell hw'; go_simp; first | exact ⟨rfl, rfl⟩ | rfl)); clear hK K))
      refine wpQuiet_nil ?_
      intro w2 hw2
      go_wp2_with fail
      go_ret
      exact ⟨rfl, H1.out.trans (hw2.mono H1.out.size)⟩
    · have hd1 : decide ((60 : Int) < (n : Int)) = false := by simp; omega
      have hd2 : decide ((60 : Int) < (n2 : Int)) = true := by simp; omega
      go_wp2_with fail
      go_ret
      exact ⟨rfl, H1.out⟩
  · have hd1 : decide ((60 : Int) < (n : Int)) = true := by simp; omega
    go_wp2_with fail
    go_ret
    exact ⟨rfl, H1.out⟩

end Go.Proofs.YtkgkhcfonlhphaaGreatDoor
