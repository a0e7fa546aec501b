/- The contract of script.words: the line's words. Condition: a line of at most 2^40 bytes. -/
import Derived.Test.YtkgkhcfonlhphaaGreatDoorShow
import Derived.Test.YtkgkhcfonlhphaaGreatDoorParts
namespace Go.Proofs.YtkgkhcfonlhphaaGreatDoor
open Go.RowKit

theorem words_nil (B : Nat) (w : World) : WordsAt B (.slice none 0 0) [] w := ⟨rfl, .inl ⟨rfl, rfl⟩⟩

theorem words_mono {B B' : Nat} {v : Value} {ws : List (List UInt8)} {w : World} (h : WordsAt B v ws w) (hB : B' ≤ B) : WordsAt B' v ws w := by
  refine ⟨h.1, ?_⟩
  rcases h.2 with hn | ⟨g, cap, cur, hv, hbg, rest⟩
  · exact .inl hn
  · exact .inr ⟨g, cap, cur, hv, Nat.le_trans hB hbg, rest⟩

theorem snoc_len {ws : List (List UInt8)} {fr pos : Nat} (h : ws.length ≤ fr) (h2 : fr ≤ pos) (c : List UInt8) : (ws ++ [c]).length ≤ pos + 1 := by
  simp only [List.length_append, List.length_cons, List.length_nil]
  omega

theorem extract_list (s : ByteArray) (a b : Nat) : s.extract a b = ⟨((s.data.toList.drop a).take (b - a)).toArray⟩ := by
  rw [ByteArray.ext_iff]
  simp only [ByteArray.data_extract]
  rw [← Array.toList_inj]
  simp only [Array.toList_extract, List.extract_eq_take_drop]

theorem cur_step (l : List UInt8) (fr pos n : Nat) (h : fr ≤ pos) : (l.drop fr).take (pos + n - fr) = (l.drop fr).take (pos - fr) ++ (l.drop pos).take n := by
  have e : pos + n - fr = (pos - fr) + n := by omega
  rw [e, List.take_add, List.drop_drop]
  congr 3
  omega

set_option maxHeartbeats 2000000 in
set_option maxRecDepth 100000 in
theorem scr_words (s : ByteArray) (w : World) (hs : s.size ≤ 1099511627776) :
    Calls Tryz.prog 27 #[.string s] w fun e w' => (∃ v, e = .returned v ∧ WordsAt w.heap.size v (parts false [] s.data.toList) w') ∧ Below w.heap.size w w' := by
  obtain ⟨i0, hi, hz0, hz1, hz2⟩ := info_parts str_info
  have hl0 : s.data.toList.length = s.size := by simp
  go_enter Tryz.func27, Tryz.ntmps27
  go_wp2_with fail
  go_loopw [3, 4, 5] (fun v f q wr => ∃ (pos fr : Nat) (qb : Bool) (ws : List (List UInt8)), fr ≤ pos ∧ pos ≤ s.size ∧ f = .int .i64 (fr : Int) ∧ q = .bool qb ∧ ws.length ≤ fr ∧ WordsAt (w.heap.size + 1) v ws wr ∧ wr.heap[w.heap.size]? = some (.stringIter s pos) ∧ Below w.heap.size w wr ∧ ws ++ parts qb ((s.data.toList.drop fr).take (pos - fr)) (s.data.toList.drop pos) = parts false [] s.data.toList) (fun _ _ _ wr => s.size - wr.iterPos w.heap.size)
  case atStart =>
    exact ⟨0, 0, false, [], by omega, by omega, rfl, rfl, Nat.le_refl 0, words_nil _ _, heap_alloc_new _ _, (Below.refl _ _).alloc (Nat.le_refl _) _, by simp⟩
  case round =>
    obtain ⟨pos, fr, qb, ws, hfp, hpl, rfl, rfl, hwl, hW, hit, hb, heq⟩ := hrel
    have Heq := Lib.hid heq
    clear heq
    have hszr := hb.size
    by_cases hp : pos < s.size
    · have hne : s.data.toList.drop pos ≠ [] := by
        intro h0
        have := congrArg List.length h0
        simp at this
        omega
      have hd0 := Uni.decode_drop s pos
      have hd1 := Uni.dec_pos (s.data.toList.drop pos)
      have hd2 := Uni.dec_le _ hne
      have hdl : (s.data.toList.drop pos).length = s.size - pos := by simp
      have hnx0 : ∀ ty, (Instr.next (.pointer (some ⟨w.heap.size, 0, none⟩)) true ty).run Tryz.prog wr = .ok (.tuple #[.bool true, .int .i64 pos, .int .i32 (Uni.decL (s.data.toList.drop pos)).1]) (wr.iterAt w.heap.size s (pos + (Uni.decL (s.data.toList.drop pos)).2)) := fun ty => by
        rw [← hd0]
        exact Lib.run_next_any_at wr w.heap.size s pos ty hit hp
      have hq1 := fun h => parts_quote qb ((s.data.toList.drop fr).take (pos - fr)) _ hne h
      have hq2 := fun h => parts_space ((s.data.toList.drop fr).take (pos - fr)) _ hne h
      have hq3 := fun h h' => parts_other qb ((s.data.toList.drop fr).take (pos - fr)) _ hne h h'
      have hdrop : s.data.toList.drop (pos + (Uni.decL (s.data.toList.drop pos)).2) = (s.data.toList.drop pos).drop (Uni.decL (s.data.toList.drop pos)).2 := by rw [List.drop_drop]
      have hcur := cur_step s.data.toList fr pos (Uni.decL (s.data.toList.drop pos)).2 hfp
      clear hd0
      generalize hL : s.data.toList.drop pos = L at *
      generalize hdd : Uni.decL L = d at *
      obtain ⟨c, n⟩ := d
      simp only at *
      have H := Lib.hid (And.intro hq1 (And.intro hq2 (And.intro hq3 (And.intro hdrop hcur))))
      clear hq1 hq2 hq3 hdrop hcur hdd
      have HL := Lib.hid hL
      clear hL
      have hit2 := Lib.iterAt_heap wr w.heap.size s pos (pos + n) hit
      have hb2 := Lib.below_iterAt hb (k := w.heap.size) (Nat.le_refl _) s (pos + n)
      have hWi : WordsAt (w.heap.size + 1) u3 ws (wr.iterAt w.heap.size s (pos + n)) := ownsRow_iterAt hW (Nat.lt_succ_self _) s (pos + n)
      have hszi : (wr.iterAt w.heap.size s (pos + n)).heap.size = wr.heap.size := Lib.iterAt_size _ _ _ _
      have hwlt : w.heap.size < wr.heap.size := (Array.getElem?_eq_some_iff.1 hit).1
      by_cases h34 : c = 34
      · have hcT : ((c : Int) == 34) = true := by subst h34; rfl
        obtain ⟨hn1, hpe⟩ := H.out.1 h34
        subst hn1
        have Hpe := Lib.hid hpe
        clear hpe
        go_wp2_with fail
        refine ⟨⟨pos + 1, fr, !qb, ws, by omega, by omega, rfl, rfl, hwl, hWi, hit2, hb2, ?_⟩, ?_⟩
        · rw [← Heq.out, Hpe.out, H.out.2.2.2.1, H.out.2.2.2.2]
        · simp only [World.iterPos, hit2, hit]
          omega
      · have hcF : ((c : Int) == 34) = false := by simp; omega
        by_cases h32 : c = 32 ∧ qb = false
        · obtain ⟨h32, rfl⟩ := h32
          have hcT : ((c : Int) == 32) = true := by subst h32; rfl
          obtain ⟨hn1, hpe⟩ := H.out.2.1 h32
          subst hn1
          have Hpe := Lib.hid hpe
          clear hpe
          have hex := extract_list s fr pos
          obtain ⟨cl, hcl⟩ : ∃ cl, cl = (s.data.toList.drop fr).take (pos - fr) := ⟨_, rfl⟩
          rw [← hcl] at hex
          have Hcl := Lib.hid hcl
          clear hcl
          go_wp2_with (at_builtin; refine wpList_append_own_at _ rfl _ _ 34 rfl (w.heap.size + 1) 9 i0 (.string ⟨#[]⟩) 1 16 Tryz.underlying34 hi hz0 hz1 hz2 rfl (by decide) _ _ _ rfl (World.ownsRow.alloc hWi _) ⟨wr.heap.size, 0, none⟩ 1 1 [.string ⟨cl.toArray⟩] rfl rfl ?c1 ?c2 ?c3 ?c4 ?c5 ?_)
          case c2 => rfl
          case c3 => unfold maxLen; omega
          case c4 => omega
          intro v' w3 hown hgrow _ hplace
          go_wp2
          have hit3 : w3.heap[w.heap.size]? = some (.stringIter s (pos + 1)) := by
            rw [hgrow.block w.heap.size (by simp; omega) (fun e => by
              rcases hW.2 with ⟨rfl, _⟩ | ⟨g, _, _, rfl, hBg, _⟩
              · cases e
              · have : g = w.heap.size := Option.some.inj e.symm
                omega)]
            rw [Below.heap_alloc _ _ _ (by rw [hszi]; exact hwlt)]
            exact hit2
          refine ⟨⟨pos + 1, pos + 1, false, ws ++ [cl], by omega, by omega, by go_num, rfl, snoc_len hwl hfp cl, words_snoc hown, hit3, below_own (hb2.alloc (by omega) _) (by simp; omega) (World.ownsRow.alloc hWi _) (by omega) hgrow, ?_⟩, ?_⟩
          · rw [← Heq.out, Hpe.out, H.out.2.2.2.1, Hcl.out]
            simp
          · simp only [World.iterPos, hit3, hit]
            omega
        · have hpe := H.out.2.2.1 h34 (by
            rcases Bool.eq_false_or_eq_true qb with h | h
            · exact .inr h
            · exact .inl (fun hc => h32 ⟨hc, h⟩))
          have Hpe := Lib.hid hpe
          clear hpe
          by_cases hc32 : c = 32
          · have hcT : ((c : Int) == 32) = true := by subst hc32; rfl
            have hqt : qb = true := by
              rcases Bool.eq_false_or_eq_true qb with h | h
              · exact h
              · exact absurd ⟨hc32, h⟩ h32
            subst hqt
            go_wp2_with fail
            refine ⟨⟨pos + n, fr, true, ws, by omega, by omega, rfl, rfl, hwl, hWi, hit2, hb2, ?_⟩, ?_⟩
            · rw [← Heq.out, Hpe.out, H.out.2.2.2.1, H.out.2.2.2.2]
            · simp only [World.iterPos, hit2, hit]
              omega
          · have hcT : ((c : Int) == 32) = false := by simp; omega
            go_wp2_with fail
            refine ⟨⟨pos + n, fr, qb, ws, by omega, by omega, rfl, rfl, hwl, hWi, hit2, hb2, ?_⟩, ?_⟩
            · rw [← Heq.out, Hpe.out, H.out.2.2.2.1, H.out.2.2.2.2]
            · simp only [World.iterPos, hit2, hit]
              omega
    · have hpe : pos = s.size := by omega
      have hend : parts qb ((s.data.toList.drop fr).take (pos - fr)) (s.data.toList.drop pos) = [(s.data.toList.drop fr).take (pos - fr)] := by
        have hdn : s.data.toList.drop pos = [] := List.drop_eq_nil_of_le (by rw [hl0]; omega)
        rw [hdn]
        cases qb <;> rfl
      have hex := extract_list s fr s.size
      rw [hpe] at hend
      obtain ⟨cl, hcl⟩ : ∃ cl, cl = (s.data.toList.drop fr).take (s.size - fr) := ⟨_, rfl⟩
      rw [← hcl] at hex hend
      have Hend := Lib.hid (show ws ++ [cl] = parts false [] s.data.toList from by rw [← Heq.out, hpe, ← hcl, hend])
      clear hend hcl
      have hnx0 : ∀ ty, (Instr.next (.pointer (some ⟨w.heap.size, 0, none⟩)) true ty).run Tryz.prog wr = _ := fun ty => Lib.run_next_end_at wr w.heap.size s pos ty hit hp
      go_wp2_with (at_builtin; refine wpList_append_own_at _ rfl _ _ 34 rfl (w.heap.size + 1) 9 i0 (.string ⟨#[]⟩) 1 16 Tryz.underlying34 hi hz0 hz1 hz2 rfl (by decide) _ _ _ rfl (World.ownsRow.alloc hW _) ⟨wr.heap.size, 0, none⟩ 1 1 [.string ⟨cl.toArray⟩] rfl rfl ?d1 ?d2 ?d3 ?d4 ?d5 ?_)
      case d1 => exact cell_one_new _ _ _
      case d2 => first | rfl | (intro u hu; simp at hu; subst hu; rfl)
      case d3 => unfold maxLen; omega
      case d4 => omega
      case d5 => simp; omega
      intro v' w3 hown hgrow _ hplace
      go_wp2
      go_ret
      refine ⟨⟨v', rfl, ?_⟩, below_own (hb.alloc hszr _) (by simp; omega) (World.ownsRow.alloc hW _) (by omega) hgrow⟩
      rw [← Hend.out]
      exact words_mono (words_snoc hown) (Nat.le_succ _)

end Go.Proofs.YtkgkhcfonlhphaaGreatDoor
