/- The contract of the reference's Quote: the same text as script.Quote's. Condition: the text is at most 2^40 bytes long. -/
import Derived.Test.YtkgkhcfonlhphaaGreatDoorQuo
import Derived.IntWalk
import Derived.Lib.OthersKept
import Derived.Deep.RegionWith
import Derived.Deep.LoopGhost
namespace Go.Proofs.YtkgkhcfonlhphaaGreatDoor
open Go.RowKit Uni

theorem data_app (a b : List UInt8) : (⟨a.toArray⟩ : ByteArray) ++ ⟨b.toArray⟩ = ⟨(a ++ b).toArray⟩ := by
  rw [ByteArray.ext_iff]
  simp

theorem take3 (s : ByteArray) (pos : Nat) (_h : pos + 3 ≤ s.size) : (s.extract pos (pos + 3)).data.toList = (s.data.toList.drop pos).take 3 := by
  simp only [ByteArray.data_extract, Array.toList_extract, List.extract_eq_take_drop]
  congr 1
  omega

theorem byte_toList (b : ByteArray) : b.toList = b.data.toList := by
  exact ByteArray.toList_eq b

set_option maxHeartbeats 4000000 in
set_option maxRecDepth 1000000 in
theorem ref_Quote (s : ByteArray) (w : World) (hs : s.size ≤ 1099511627776) :
    Calls Tryz.prog 22 #[.string s] w fun e w' => e = .returned (.string ⟨(quoteL s.data.toList).toArray⟩) ∧ Below w.heap.size w w' := by
  go_enter Tryz.func22, Tryz.ntmps22
  go_wp2_with fail
  go_loopw [3] (fun o wr => ∃ (pos : Nat) (acc : List UInt8), o = .string ⟨acc.toArray⟩ ∧ wr.heap[w.heap.size]? = some (.stringIter s pos) ∧ Below w.heap.size w wr ∧ acc ++ qrest (s.data.toList.drop pos) = 34 :: qrest s.data.toList) (fun _ wr => s.size - wr.iterPos w.heap.size)
  case atStart => exact ⟨0, [34], rfl, World.iter_heap w s 0, (Below.refl _ _).alloc (Nat.le_refl _) _, rfl⟩
  case round =>
    obtain ⟨pos, acc, rfl, hit, hbw, hacc⟩ := hrel
    have hlen : acc.length ≤ 3 * s.size + 1 := by
      have h1 := congrArg List.length hacc
      have h2 := qrest_length s.data.toList
      have h3 : s.data.toList.length = s.size := by simp
      simp only [List.length_append, List.length_cons] at h1
      omega
    have Hacc := Lib.hid hacc
    clear hacc
    by_cases hp : pos < s.size
    · have hne : s.data.toList.drop pos ≠ [] := by
        intro h0
        have := congrArg List.length h0
        simp at this
        omega
      have hd0 := decode_drop s pos
      have hd1 := dec_pos (s.data.toList.drop pos)
      have hd2 := dec_le _ hne
      have hd3 := dec_valid (s.data.toList.drop pos)
      have hstep := qrest_step _ hne
      have hraw : raw (s.data.toList.drop pos) = (plainB (decL (s.data.toList.drop pos)).1 && !((decL (s.data.toList.drop pos)).1 == 65533 && (decL (s.data.toList.drop pos)).2 == 1)) := rfl
      have hlenR := dec_len (s.data.toList.drop pos)
      have hbad := dec_bad (s.data.toList.drop pos)
      have hdrop : s.data.toList.drop (pos + (decL (s.data.toList.drop pos)).2) = (s.data.toList.drop pos).drop (decL (s.data.toList.drop pos)).2 := by rw [List.drop_drop]
      have hdl : (s.data.toList.drop pos).length = s.size - pos := by simp
      have hnx0 : ∀ ty, (Instr.next (.pointer (some ⟨w.heap.size, 0, none⟩)) true ty).run Tryz.prog wr = .ok (.tuple #[.bool true, .int .i64 pos, .int .i32 (decL (s.data.toList.drop pos)).1]) (wr.iterAt w.heap.size s (pos + (decL (s.data.toList.drop pos)).2)) := fun ty => by
        rw [← hd0]
        exact Lib.run_next_any_at wr w.heap.size s pos ty hit hp
      have hex : s.extract pos (pos + (decL (s.data.toList.drop pos)).2) = ⟨((s.data.toList.drop pos).take (decL (s.data.toList.drop pos)).2).toArray⟩ := by
        rw [ByteArray.ext_iff]
        simp only [ByteArray.data_extract]
        rw [← Array.toList_inj]
        simp only [Array.toList_extract, List.extract_eq_take_drop]
        congr 1
        omega
      have h3 := take3 s pos
      have hget : ∀ k (hk : pos + k < s.size), s[pos + k] = (s.data.toList.drop pos).getD k 0 := by
        intro k hk
        rw [List.getD_eq_getElem?_getD, List.getElem?_drop]
        simp [hk]
        rfl
      clear hd0
      generalize hL : s.data.toList.drop pos = L at *
      generalize hdd : decL L = d at *
      obtain ⟨c, n⟩ := d
      simp only at *
      have hit2 := Lib.iterAt_heap wr w.heap.size s pos (pos + n) hit
      have hbw2 := Lib.below_iterAt hbw (k := w.heap.size) (by omega) s (pos + n)
      have HL := Lib.hid hL
      have Hdd := Lib.hid hdd
      have Hex := Lib.hid hex
      have Hstep := Lib.hid hstep
      have Hdrop := Lib.hid hdrop
      have Hraw := Lib.hid hraw
      have Hget := Lib.hid hget
      have H3 := Lib.hid h3
      have Hlen := Lib.hid hlenR
      have Hbad := Lib.hid hbad
      clear hL hdd hex hstep hdrop hraw hget h3 hlenR hbad
      by_cases hr : raw L = true
      · have hpl : plainB (c : Int) = true := by
          rw [Hraw.out] at hr
          simp only [Bool.and_eq_true] at hr
          exact hr.1
        have hnb : ¬ (c = 65533 ∧ n = 1) := by
          rw [Hraw.out] at hr
          simp only [Bool.and_eq_true, Bool.not_eq_true', Bool.and_eq_false_iff, beq_eq_false_iff_ne] at hr
          omega
        have hln := Hlen.out hnb
        have htest : ((c : Int) == 65533) = false ∨ (((c : Int) == 65533) = true ∧ (pos : Int) + 3 ≤ s.size ∧ (!(s.extract pos (pos + 3)).toList == [239, 191, 189]) = false) := by
          by_cases hc : c = 65533
          · right
            have h3 := (not_congr (Hbad.out hc)).1 (fun h => hnb ⟨hc, h⟩)
            have h3' : L.take 3 = [239, 191, 189] := Classical.not_not.1 h3
            have hl3 : 3 ≤ L.length := by
              have := congrArg List.length h3'
              simp at this
              omega
            refine ⟨by simp; omega, by omega, ?_⟩
            have := H3.out (by omega)
            rw [h3'] at this
            show (!(s.extract pos (pos + 3)).toList == [239, 191, 189]) = false
            rw [show (s.extract pos (pos + 3)).toList = (s.extract pos (pos + 3)).data.toList from byte_toList _, this]
            rfl
          · left; simp; omega
        have Hr := Lib.hid hr
        clear hr hnb
        have hp6 : plainB (65533 : Int) = true := by decide
        rcases htest with ht | ⟨ht, h3, h3'⟩
        rotate_left
        have hd3x : decide ((s.size : Int) < (pos : Int) + 3) = false := by simp; omega
        all_goals
          go_wp2_with (first | (go_at_call 40; refine (ref_length (c : Int) _).mono ?_; rintro e w' ⟨rfl, rfl⟩) | (go_at_call 41; refine (ref_plain _ _).mono ?_; rintro e w' ⟨rfl, rfl⟩))
          refine ⟨⟨pos + n, acc ++ L.take n, ?_, hit2, hbw2, ?_⟩, ?_⟩
          · rw [Hex.out, data_app]
          · rw [Hdrop.out, ← Hacc.out, Hstep.out, List.append_assoc]
            unfold piece
            rw [if_pos Hr.out, Hdd.out]
          · simp only [World.iterPos, hit2, hit]
            omega
      · have hr2 : raw L = false := by simpa using hr
        have htest : (plainB (c : Int) = false ∧ ((c : Int) == 65533) = false ∧ Uni.lenR (c : Int) = n) ∨ (((c : Int) == 65533) = true ∧ (pos : Int) + 3 ≤ s.size ∧ (!(s.extract pos (pos + 3)).toList == [239, 191, 189]) = true ∧ (n : Int) ≤ 1) ∨ (((c : Int) == 65533) = true ∧ (s.size : Int) < pos + 3 ∧ (n : Int) ≤ 1) := by
          rw [Hraw.out] at hr2
          by_cases hc : c = 65533
          · right
            have hn : n = 1 := by
              subst hc
              simp at hr2
              exact hr2 (by decide)
            by_cases h3 : pos + 3 ≤ s.size
            · left
              refine ⟨by simp; omega, by omega, ?_, by omega⟩
              have h4 := (Hbad.out hc).1 hn
              rw [show (s.extract pos (pos + 3)).toList = (s.extract pos (pos + 3)).data.toList from byte_toList _, H3.out h3]
              simpa using h4
            · right
              exact ⟨by simp; omega, by omega, by omega⟩
          · left
            refine ⟨?_, by simp; omega, Hlen.out (fun h => hc h.1)⟩
            simp only [Bool.and_eq_false_iff, Bool.not_eq_false', Bool.and_eq_true, beq_iff_eq] at hr2
            rcases hr2 with h | h
            · exact h
            · exact absurd h.1 hc
        have Hr := Lib.hid hr2
        clear hr hr2
        have hp6 : plainB (65533 : Int) = true := by decide
        rcases htest with ⟨hpl, ht, hln⟩ | ⟨ht, h3, h3', hn1⟩ | ⟨ht, h3, hn1⟩
        rotate_left
        have hpl : plainB (c : Int) = true := by rw [show (c : Int) = 65533 from by simpa using ht]; decide
        have hd3x : decide ((s.size : Int) < (pos : Int) + 3) = false := by simp; omega
        rotate_left
        have hpl : plainB (c : Int) = true := by rw [show (c : Int) = 65533 from by simpa using ht]; decide
        have hd3x : decide ((s.size : Int) < (pos : Int) + 3) = true := by simp; omega
        all_goals
          go_wp2_with (first | (go_at_call 40; refine (ref_length (c : Int) _).mono ?_; rintro e w' ⟨rfl, rfl⟩) | (go_at_call 41; refine (ref_plain _ _).mono ?_; rintro e w' ⟨rfl, rfl⟩))
          go_loopw [3, 9] (fun o i wi => ∃ (m : Nat) (A : List UInt8), pos ≤ m ∧ m ≤ pos + n ∧ i = .int .i64 (m : Int) ∧ o = .string ⟨A.toArray⟩ ∧ A = acc ++ ((L.take n).take (m - pos)).flatMap pct ∧ wi.heap[w.heap.size]? = some (.stringIter s (pos + n)) ∧ Below w.heap.size w wi) (fun _ i _ => pos + n - (intOf i).toNat)
          case atStart => exact ⟨pos, acc, by omega, by omega, rfl, rfl, by simp, hit2, hbw2⟩
          case round =>
            obtain ⟨m, A, hm1, hm2, rfl, rfl, hA, hitk, hbwk⟩ := hrel
            have hAl : A.length ≤ 6 * s.size + 1 := by
              have : ((L.take n).take (m - pos)).length ≤ L.length := by rw [List.length_take, List.length_take]; omega
              rw [hA, List.length_append, flat_pct_length]
              omega
            by_cases hlt : m < pos + n
            · have hpk : m < s.size := by omega
              have hgk : s[m] = L.getD (m - pos) 0 := by
                have h1 := Hget.out (m - pos) (by omega)
                rw [← h1]
                congr 1
                omega
              have hbl := (s[m]'hpk).toNat_lt
              have e1 : IntKind.u8.wrap ((s[m].toNat : Int) / 16) = (s[m].toNat : Int) / 16 := IntWalk.u8_in _ (by omega)
              have e2 : (s[m].toNat : Int).tmod 16 = (s[m].toNat : Int) % 16 := Int.tmod_eq_emod_of_nonneg (by omega)
              have HG := Lib.hid hgk
              have HA := Lib.hid hA
              clear hgk hA
              go_wp2_with fail
              go_quiet ((go_at_call 42; first | exact Calls.quiet_of_same (ref_digit _ _ (by omega) (by omega)) | exact quiet_add_same (ref_digit _ _ (by omega) (by omega))))
              go_wp2
              refine ⟨⟨m + 1, A ++ pct s[m], by omega, by omega, by go_num, ?_, ?_, hitk, below_drewN hbwk _⟩, by simp [intOf]; omega⟩
              · rw [← data_app]
                rfl
              · rw [show m + 1 - pos = (m - pos) + 1 from by omega, HA.out, List.append_assoc]
                congr 1
                have hk1 : m - pos < (L.take n).length := by rw [List.length_take]; omega
                rw [List.take_add_one, List.flatMap_append, List.getElem?_eq_getElem hk1]
                congr 1
                simp only [Option.toList_some, List.flatMap_cons, List.flatMap_nil, List.append_nil, List.getElem_take]
                rw [HG.out, List.getD_eq_getElem?_getD, List.getElem?_eq_getElem (by omega)]
                rfl
            · have hmm : m - pos = n := by omega
              rw [hmm, List.take_take, Nat.min_self] at hA
              have HA := Lib.hid hA
              clear hmm hA
              go_wp2
              refine ⟨⟨pos + n, A, rfl, hitk, hbwk, ?_⟩, ?_⟩
              · rw [HA.out, Hdrop.out, ← Hacc.out, Hstep.out, List.append_assoc]
                unfold piece
                rw [if_neg (by rw [Hr.out]; decide), Hdd.out]
              · simp only [World.iterPos, hitk, hit]
                omega
    · have hnx0 : ∀ ty, (Instr.next (.pointer (some ⟨w.heap.size, 0, none⟩)) true ty).run Tryz.prog wr = _ := fun ty => Lib.run_next_end_at wr w.heap.size s pos ty hit hp
      have hd : s.data.toList.drop pos = [] := List.drop_eq_nil_of_le (by simp; omega)
      have hacc2 : acc = 34 :: qrest s.data.toList := by rw [← Hacc.out, hd, qrest_nil, List.append_nil]
      have HA := Lib.hid hacc2
      clear hacc2 hd
      go_wp2
      go_ret
      refine ⟨ret_str ?_, hbw⟩
      rw [HA.out]
      exact data_app _ [34]

end Go.Proofs.YtkgkhcfonlhphaaGreatDoor
