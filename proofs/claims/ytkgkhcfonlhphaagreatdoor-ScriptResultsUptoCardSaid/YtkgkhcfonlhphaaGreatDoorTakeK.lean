/- The contract of script.take at a kept text's word. -/
import Derived.Test.YtkgkhcfonlhphaaGreatDoorTake
namespace Go.Proofs.YtkgkhcfonlhphaaGreatDoor
open Go.RowKit

/-- all that was, but block `p` and block `r`, is as it was -/
structure But2 (p : Nat) (r : Option Nat) (w w' : World) : Prop where
  os : w'.os = w.os
  tape : w'.tape = w.tape
  output : w'.output = w.output
  size : w.heap.size ≤ w'.heap.size
  block : ∀ k, k < w.heap.size → k ≠ p → r ≠ some k → w'.heap[k]? = w.heap[k]?

def keepB : ByteArray := ⟨#[107, 101, 101, 112]⟩

theorem OpAt.grown {w w' : World} {p : Nat} {cs : Array Value} {r : Option Nat} (h : OpAt w p cs) (hg : w.grownBy w' r) (hr : r ≠ some p) : OpAt w' p cs :=
  (hg.block p (Array.getElem?_eq_some_iff.1 h).1 (fun e => hr e.symm)).trans h

theorem words_set {B p j : Nat} {v u : Value} {ws : List (List UInt8)} {w : World} (h : WordsAt B v ws w) (hp : v.ownBlock ≠ some p) : WordsAt B v ws (w.setCell ⟨p, j, none⟩ u) := by
  refine ⟨h.1, ?_⟩
  rcases h.2 with hn | ⟨g, cap, cur, hv, hbg, hg, rest⟩
  · exact .inl hn
  · refine .inr ⟨g, cap, cur, hv, hbg, ?_, rest⟩
    rw [Below.heap_setCell w _ u g (fun e => hp (by rw [hv]; exact congrArg some e))]
    exact hg

set_option maxHeartbeats 1000000 in
set_option maxRecDepth 100000 in
theorem scr_take_keep (s : ByteArray) (hs : s.size ≤ 1000) (p : Nat) (cs : Array Value) (kv : Value) (ks : List (List UInt8)) (B : Nat) (w : World) (hO : OpAt w p cs) (hkv : cs[10]? = some kv) (hW : WordsAt B kv ks w) (hB : B ≤ w.heap.size) (hkp : kv.ownBlock ≠ some p) (hkl : ks.length ≤ 100)
    (hT : ∀ W, Below w.heap.size w W → Tabs W) :
    Calls Tryz.prog 29 #[.pointer (some ⟨p, 0, none⟩), .string keepB, .string ⟨(quoteL s.data.toList).toArray⟩] w fun e w' => e = .returned (.tuple #[]) ∧ ∃ kv', OpAt w' p (cs.setIfInBounds 10 kv') ∧ WordsAt B kv' (ks ++ [s.data.toList]) w' ∧ (kv'.ownBlock = kv.ownBlock ∨ ∃ q, kv'.ownBlock = some q ∧ w.heap.size ≤ q) ∧ But2 p kv.ownBlock w w' := by
  obtain ⟨i0, hi, hz0, hz1, hz2⟩ := info_parts str_info
  have hp : p < w.heap.size := (Array.getElem?_eq_some_iff.1 hO).1
  have huq := fun W hT => scr_Unquote_quote s W (by omega) hT
  obtain ⟨t, ht⟩ : ∃ t : ByteArray, (⟨(quoteL s.data.toList).toArray⟩ : ByteArray) = t := ⟨_, rfl⟩
  simp only [ht] at huq
  rw [ht]
  have hnn : ∀ (j : Nat) (y : Nat × Nat × Nat × ByteArray), fieldKeys[j]? = some y → (y.2.2.2.toList == keepB.toList) = false := fun j y hy => by
    have h1 := field_not_keep j y hy
    have h2 : keepB.toList = [107, 101, 101, 112] := by rw [ByteArray.toList_eq]; rfl
    rw [h2]
    exact h1
  have hkk : (keepB.toList == [107, 101, 101, 112]) = true := by rw [ByteArray.toList_eq]; decide
  generalize keepB = nm at *
  have Huq := Lib.hid huq
  have Hnn := Lib.hid hnn
  have HO := Lib.hid hO
  have HT := Lib.hid hT
  have HW := Lib.hid hW
  have Hkv := Lib.hid hkv
  have Hkp := Lib.hid hkp
  clear huq hnn hO hT ht hW hkv hkp
  go_enter Tryz.func29, Tryz.ntmps29
  go_wp2_with (go_at_call 25; refine (fields_post _).mono ?_)
  intro e w1 hfp
  obtain ⟨g, rfl, ⟨bs, hF, hbl⟩, hb1, hgl⟩ := hfp
  have hs1 := hb1.size
  clear hgl hbl
  go_wp2_with fail
  go_loopw [12] (fun i wr => ∃ j : Nat, j ≤ 9 ∧ i = .int .i64 (j : Int) ∧ FieldsAt wr g bs ∧ Below w.heap.size w wr) (fun i _ => 9 - (intOf i).toNat)
  case atStart => exact ⟨0, by omega, rfl, hF, hb1⟩
  case round =>
    clear hF hb1
    obtain ⟨j, hj9, rfl, hF, hb⟩ := hrel
    have hsz := hb.size
    by_cases hlt : j < 9
    · obtain ⟨y, hy⟩ : ∃ y, fieldKeys[j]? = some y := ⟨_, List.getElem?_eq_getElem (show j < fieldKeys.length from hlt)⟩
      obtain ⟨b, hbb⟩ : ∃ b, bs[j]? = some b := ⟨_, List.getElem?_eq_getElem (show j < bs.length by rw [hF.len]; exact hlt)⟩
      have e0 : wr.cell? ⟨g, j * 3, none⟩ = _ := hF.row (j * 3) _ (field_get bs j y b 0 hy hbb (by omega))
      have e1 := hF.row (j * 3 + 1) _ (field_get bs j y b 1 hy hbb (by omega))
      have e2 := hF.row (j * 3 + 2) _ (field_get bs j y b 2 hy hbb (by omega))
      have hnj2 := Hnn.out j y hy
      obtain ⟨F2, S2, T2, nm2⟩ := y
      simp only at e0 e1 e2 hnj2
      have hbA : Below wr.heap.size wr (wr.alloc (.cells #[.string nm2, .func (.func S2) #[] #[.pointer (some ⟨b, 0, none⟩)], .func (.func T2) #[] #[.pointer (some ⟨b, 0, none⟩)]] 64)) := (Below.refl _ _).alloc (Nat.le_refl _) _
      have HA := Lib.hid (And.intro (hF.below hbA) (hb.trans (hbA.mono hsz)))
      clear hbA hF hb
      go_wp2_with fail
      obtain ⟨hFA, hbA⟩ := HA.out
      exact ⟨⟨j + 1, by omega, by go_num, hFA, hbA⟩, by simp [intOf]; omega⟩
    · have hTr := HT.out _ hb
      have HU := Lib.hid (Huq.out _ hTr.utf)
      clear hF hTr
      go_wp2_with (go_at_call 14; refine HU.out.mono ?_)
      rintro e w2 ⟨rfl, hb2⟩
      have hbw := hb.trans (hb2.mono hsz)
      have hO2 := HO.out.below hbw
      have hW2 := HW.out.keep hbw
      have c10 := (hO2.cell Hkv.out).1
      have hsw := hbw.size
      have HB := Lib.hid (And.intro hO2 hbw)
      clear HU hb hb2 hO2 hbw
      go_wp2_with (at_builtin; refine wpList_append_own_at _ rfl _ _ 34 rfl B 9 i0 (.string ⟨#[]⟩) 1 16 Tryz.underlying34 hi hz0 hz1 hz2 rfl (by decide) _ _ _ rfl (World.ownsRow.alloc hW2 _) ⟨w2.heap.size, 0, none⟩ 1 1 [.string s] rfl rfl ?c1 ?c2 ?c3 ?c4 ?c5 ?_)
      case c1 => exact cell_one_new _ _ _
      case c2 => intro u hu; simp at hu; subst hu; rfl
      case c3 => unfold maxLen; omega
      case c4 => omega
      case c5 => simp; omega
      intro v' w3 hown hgrow _ hplace
      obtain ⟨hO2, hbw⟩ := HB.out
      have hO2a : OpAt (w2.alloc (.cells #[.string s] 9)) p cs := hO2.below ((Below.refl _ _).alloc (Nat.le_refl _) _)
      have hO3 := hO2a.grown hgrow Hkp.out
      have d10 := hO3.cell Hkv.out
      have f10 := d10.2
      have g10 := d10.1
      clear d10 c10
      obtain ⟨va, vn, vc, hv⟩ : ∃ va vn vc, v' = .slice va vn vc := by
        rcases hown.2 with ⟨hv, _⟩ | ⟨q, cap, cur, hv, _⟩
        · exact ⟨_, _, _, hv⟩
        · exact ⟨_, _, _, hv⟩
      have HR := Lib.hid (And.intro hown (And.intro hgrow (And.intro hplace (And.intro hO3 hbw))))
      clear hown hgrow hplace hO3 hbw hO2 hO2a
      subst hv
      go_wp2_with fail
      all_goals
        obtain ⟨hown, hgrow, hplace, hO3, hbw⟩ := HR.out
        go_end0
        refine ⟨rfl, _, hO3.set 10 _, ?_, ?_, ?_⟩
        · rw [← bytes_eta' s] at hown
          refine words_set (words_snoc hown) (fun e => ?_)
          rcases hplace with h | h
          · exact Hkp.out (h.symm.trans e)
          · rw [e] at h
            have h2 := Option.some.inj h
            have : (w2.alloc (.cells #[.string s] 9)).heap.size = w2.heap.size + 1 := by simp
            omega
        · rcases hplace with h | h
          · exact .inl h
          · exact .inr ⟨_, h, by have : (w2.alloc (.cells #[.string s] 9)).heap.size = w2.heap.size + 1 := by simp
                                 omega⟩
        · have h0 : Below 0 w w3 := ((hbw.mono (Nat.zero_le _)).alloc (Nat.zero_le _) _).grown hgrow (Nat.zero_le _) (fun _ _ => Nat.zero_le _)
          have h1 := h0.setCell (p := ⟨p, 10, none⟩) (Nat.zero_le _) (.slice va vn vc)
          refine ⟨h1.os, h1.tape, h1.output, h1.size, fun q hq hqp hqr => ?_⟩
          rw [Below.heap_setCell w3 _ _ q hqp, hgrow.block q (by simp; omega) (fun e => hqr e.symm), Below.heap_alloc w2 _ q (by omega)]
          exact hbw.block q hq

end Go.Proofs.YtkgkhcfonlhphaaGreatDoor
