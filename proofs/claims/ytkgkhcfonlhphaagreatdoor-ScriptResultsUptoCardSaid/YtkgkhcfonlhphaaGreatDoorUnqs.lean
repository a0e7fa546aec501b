/- Unquote at a quoted text and at a number's; taking a text. -/
import Derived.Test.YtkgkhcfonlhphaaGreatDoorUnq
namespace Go.Proofs.YtkgkhcfonlhphaaGreatDoor
open Go.RowKit Uni

theorem un_raw : ∀ (h : List UInt8) {l out : List UInt8}, (∀ b ∈ h, b ≠ 37) → Un l out → Un (h ++ l) (h ++ out) := by
  intro h
  induction h with
  | nil => intro l out _ hu; exact hu
  | cons b h ih => intro l out hb hu; exact .raw (hb b (by simp)) (ih (fun x hx => hb x (by simp [hx])) hu)

theorem un_hex : ∀ (h : List UInt8) {l out : List UInt8}, Un l out → Un (h.flatMap pct ++ l) (h ++ out) := by
  intro h
  induction h with
  | nil => intro l out hu; exact hu
  | cons b h ih =>
    intro l out hu
    rw [List.flatMap_cons, List.append_assoc]
    exact .hex (ih hu)

theorem raw_no_pct (L : List UInt8) (hne : L ≠ []) (h : raw L = true) : ∀ b ∈ L.take (decL L).2, b ≠ 37 := by
  intro b hb
  rintro rfl
  by_cases hl : (decL L).1 < 128
  · obtain ⟨a, r, rfl, h1, h2⟩ := dec_low L hne hl
    rw [h2] at hb
    simp at hb
    subst hb
    unfold raw at h
    rw [h1] at h
    simp [plainB] at h
  · have := dec_bytes_high L hne (by omega) _ hb
    simp at this

theorem un_qrest : ∀ (n : Nat) (l : List UInt8), l.length ≤ n → Un (qrest l) l := by
  intro n
  induction n with
  | zero =>
    intro l hl
    have : l = [] := List.length_eq_zero_iff.1 (by omega)
    subst this
    exact .nil
  | succ n ih =>
    intro l hl
    by_cases hne : l = []
    · subst hne
      exact .nil
    · have h1 := dec_pos l
      have hr := ih (l.drop (decL l).2) (by rw [List.length_drop]; omega)
      rw [qrest_step l hne]
      have e : l = l.take (decL l).2 ++ l.drop (decL l).2 := (List.take_append_drop _ _).symm
      unfold piece
      split
      · rename_i hraw
        have := un_raw (l.take (decL l).2) (raw_no_pct l hne hraw) hr
        rw [← e] at this
        exact this
      · have := un_hex (l.take (decL l).2) hr
        rw [← e] at this
        exact this

theorem scr_Unquote_quote (s : ByteArray) (w : World) (hs : s.size ≤ 1000000) (hT : Lib.Utf8Tabs 1 2 w) :
    Calls Tryz.prog 14 #[.string ⟨(quoteL s.data.toList).toArray⟩] w fun e w' => e = .returned (.tuple #[.string s, .bool true]) ∧ Below w.heap.size w w' := by
  refine scr_Unquote_of _ 34 34 (qrest s.data.toList) s.data.toList (by simp [quoteL]) (un_qrest _ _ (Nat.le_refl _)) s true ?_ (by simp) w ?_ hT
  · rw [if_pos rfl]
  · have := quote_len s
    show (quoteL s.data.toList).toArray.size ≤ _
    rw [List.size_toArray]
    omega

/-- a text that does not begin as a word does and has no percent sign: no word -/
theorem scr_Unquote_not (l : List UInt8) (h0 : l.head? ≠ some 34) (h37 : ∀ b ∈ l, b ≠ 37) (w : World) (hs : l.length ≤ 1000) (hT : Lib.Utf8Tabs 1 2 w) :
    Calls Tryz.prog 14 #[.string ⟨l.toArray⟩] w fun e w' => e = .returned (.tuple #[.string ⟨#[]⟩, .bool false]) ∧ Below w.heap.size w w' := by
  match l, h0, h37, hs with
  | [], _, _, _ => exact scr_Unquote_one _ w (by decide)
  | [a], _, _, _ => exact scr_Unquote_one _ w (by simp [ByteArray.size])
  | a :: b :: r, h0, h37, hs =>
    obtain ⟨mid, z, hz⟩ : ∃ mid z, b :: r = mid ++ [z] := ⟨(b :: r).dropLast, (b :: r).getLast (by simp), (List.dropLast_concat_getLast (by simp)).symm⟩
    have hU : Un mid mid := by
      have := un_raw mid (l := []) (out := []) (fun x hx => h37 x (by rw [hz]; simp [hx])) .nil
      simpa using this
    have hne : ¬ (⟨(quoteL mid).toArray⟩ : ByteArray) = ⟨(a :: b :: r).toArray⟩ := by
      intro h
      have : quoteL mid = a :: b :: r := by
        have := congrArg (fun x : ByteArray => x.data.toList) h
        simpa using this
      rw [quoteL] at this
      injection this with h1 _
      exact h0 (by rw [← h1]; rfl)
    refine scr_Unquote_of _ a z mid mid (by rw [hz]) hU ⟨#[]⟩ false (if_neg hne).symm (decide_eq_false hne).symm w ?_ hT
    show (a :: b :: r).toArray.size ≤ _
    rw [List.size_toArray]
    omega

set_option maxRecDepth 100000 in
theorem take_text (F j p b : Nat) (v : ByteArray) (old : Value) (w : World) (hF : AtFn F j) (hb : w.cell? ⟨b, 0, none⟩ = some (.func (.func F) #[] #[])) (hv : w.cell? ⟨p, j, none⟩ = some old) (hfr : w.frozen? ⟨p, j, none⟩ = false) (hblt : b < w.heap.size) (hs : v.size ≤ 1000000) (hplt : p < w.heap.size)
    (hT : Lib.Utf8Tabs 1 2 w) :
    Calls Tryz.prog 72 #[.pointer (some ⟨p, 0, none⟩), .string ⟨(quoteL v.data.toList).toArray⟩, .pointer (some ⟨b, 0, none⟩)] w fun e w' => e = .returned (.bool true) ∧ ∃ w1, Below w.heap.size w w1 ∧ w' = w1.setCell ⟨p, j, none⟩ (.string v) := by
  have H := Lib.hid hF
  clear hF
  have hu := scr_Unquote_quote v w hs hT
  generalize (⟨(quoteL v.data.toList).toArray⟩ : ByteArray) = t at *
  have HU := Lib.hid hu
  clear hu
  go_enter Tryz.func72, Tryz.ntmps72
  go_wp2_with (go_at_call 14; refine HU.out.mono ?_)
  rintro e w1 ⟨rfl, hbe⟩
  have hb1 : w1.cell? ⟨b, 0, none⟩ = some (.func (.func F) #[] #[]) := by rw [hbe.cell hblt]; exact hb
  have hv1 : w1.cell? ⟨p, j, none⟩ = some old := by rw [hbe.cell hplt]; exact hv
  have hfr1 : w1.frozen? ⟨p, j, none⟩ = false := by rw [hbe.frozen hplt]; exact hfr
  go_wp2_with fail
  rw [H.out.1, Oper.upon_enter]
  refine (H.out.2 p 0 _).mono ?_
  rintro e w' ⟨rfl, rfl⟩
  go_wp2_with fail
  go_ret
  exact ⟨rfl, _, hbe, rfl⟩

end Go.Proofs.YtkgkhcfonlhphaaGreatDoor
