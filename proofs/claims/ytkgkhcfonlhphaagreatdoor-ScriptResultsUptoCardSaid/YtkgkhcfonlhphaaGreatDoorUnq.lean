/- The contract of script.Unquote, at words whose percent signs stand before two digits. -/
import Derived.Test.YtkgkhcfonlhphaaGreatDoorHex
import Derived.Deep.RegionLaw
import Derived.Lib.BufferRead
namespace Go.Proofs.YtkgkhcfonlhphaaGreatDoor
open Go.RowKit

/-- the text `out` of a word's inner bytes -/
inductive Un : List UInt8 → List UInt8 → Prop
  | nil : Un [] []
  | raw {c : UInt8} {l out : List UInt8} : c ≠ 37 → Un l out → Un (c :: l) (c :: out)
  | hex {b : UInt8} {l out : List UInt8} : Un l out → Un (pct b ++ l) (b :: out)

theorem Un.length {l out : List UInt8} (h : Un l out) : out.length ≤ l.length := by
  induction h with
  | nil => simp
  | raw _ _ ih => simp; omega
  | hex _ ih => simp [pct]; omega

def byteV (b : UInt8) : Value := .int .u8 (b.toNat : Int)
def BytesAt (B : Nat) (v : Value) (ds : List UInt8) (w : World) : Prop := w.ownsRow B 5 1 v ds.length (ds.map byteV)
theorem BytesAt.keep {B : Nat} {v : Value} {ws : List UInt8} {w w' : World} (h : BytesAt B v ws w) (hb : Below w.heap.size w w') : BytesAt B v ws w' := own_keep h hb
theorem bytes_nil (B : Nat) (w : World) : BytesAt B (.slice none 0 0) [] w := ⟨rfl, .inl ⟨rfl, rfl⟩⟩
theorem bytes_snoc {B : Nat} {v' : Value} {ws : List UInt8} {l : UInt8} {w' : World} (h : w'.ownsRow B 5 1 v' (ws.length + 1) (ws.map byteV ++ [.int .u8 (l.toNat : Int)])) : BytesAt B v' (ws ++ [l]) w' := by
  unfold BytesAt
  rw [List.length_append, List.map_append]
  exact h
theorem u8_info : (Tryz.prog.info? 5).map (fun i => (i.zero, i.size, i.bytes)) = some (some (.int .u8 0), 1, 1) := by kernel_rfl

theorem conv_back {B : Nat} {v : Value} {ds : List UInt8} {w : World} (h : BytesAt B v ds w) : (convert 71 9 v).run Tryz.prog w = .ok (.string ⟨ds.toArray⟩) w := by
  rcases h.2 with ⟨hv, h0⟩ | ⟨g, cap, cur, hv, _⟩
  · have : ds = [] := List.length_eq_zero_iff.1 h0
    rw [hv, this]
    exact Lib.run_convert_nil_bytes w _ _ 5 0 Tryz.underlying71 Tryz.underlying5 Tryz.underlying9
  · have hc := World.ownsRow.cells (g := g) h (by rw [hv]; rfl)
    rw [hv]
    refine run_convert_bytes_back w _ _ 5 ⟨g, 0, none⟩ cap ds Tryz.underlying71 Tryz.underlying5 Tryz.underlying9 fun j hj => ?_
    exact hc j _ (by rw [List.getElem?_map, List.getElem?_eq_getElem hj]; rfl)

def vlen : Value → Nat
  | .string s => s.size
  | _ => 0

set_option maxHeartbeats 2000000 in
set_option maxRecDepth 100000 in
theorem scr_Unquote_of (s : ByteArray) (a z : UInt8) (mid out : List UInt8) (hsl : s.data.toList = a :: (mid ++ [z])) (hU : Un mid out) (r : ByteArray) (bq : Bool)
    (hr : r = if (⟨(quoteL out).toArray⟩ : ByteArray) = s then ⟨out.toArray⟩ else ⟨#[]⟩) (hbq : bq = decide ((⟨(quoteL out).toArray⟩ : ByteArray) = s))
    (w : World) (hs : s.size ≤ 1073741824) (hT : Lib.Utf8Tabs 1 2 w) :
    Calls Tryz.prog 14 #[.string s] w fun e w' => e = .returned (.tuple #[.string r, .bool bq]) ∧ Below w.heap.size w w' := by
  have Hr := Lib.hid hr
  have Hbq := Lib.hid hbq
  clear hr hbq
  obtain ⟨i0, hi, hz0, hz1, hz2⟩ := info_parts u8_info
  have hsz : s.size = mid.length + 2 := by
    have := congrArg List.length hsl
    simpa using this
  have hex : s.extract 1 (s.size - 1) = ⟨mid.toArray⟩ := by
    rw [extract_list, hsl, hsz]
    simp
  have hs2 : 2 ≤ s.size := by omega
  have hml : mid.length ≤ s.size := by omega
  have hlt2 : decide ((s.size : Int) < 2) = false := decide_eq_false (by omega)
  clear hsz
  have H := Lib.hid (And.intro hsl hU)
  clear hsl
  have hol := hU.length
  clear hU
  go_enter Tryz.func14, Tryz.ntmps14
  go_wp2_with fail
  go_loopw [4, 5] (fun v x wr => ∃ (l' out' done : List UInt8), x = .string ⟨l'.toArray⟩ ∧ l'.length ≤ mid.length ∧ done.length ≤ out.length ∧ BytesAt w.heap.size v done wr ∧ Below w.heap.size w wr ∧ Un l' out' ∧ done ++ out' = out) (fun _ x _ => vlen x)
  case atStart => exact ⟨mid, out, [], (by first | rfl | exact congrArg Value.string hex), Nat.le_refl _, Nat.zero_le _, bytes_nil _ _, Below.refl _ _, H.out.2, rfl⟩
  case round =>
    obtain ⟨l', out', done, rfl, hll, hdl, hB, hb, hU, hdo⟩ := hrel
    have hszr := hb.size
    have HD := Lib.hid hdo
    have hdn := congrArg List.length hdo
    rw [List.length_append] at hdn
    clear hdo
    cases hU with
    | nil =>
      have hd : done = out := by rw [← HD.out]; simp
      subst hd
      have hcv := conv_back hB
      have hq := scr_Quote ⟨done.toArray⟩ wr (by simp [ByteArray.size]; omega) (Utf8Tabs_below hT hb)
      have e : (⟨done.toArray⟩ : ByteArray).data.toList = done := by simp
      rw [e] at hq
      have HQ := Lib.hid hq
      clear hq e HD hdn
      obtain ⟨q, hqq⟩ : ∃ q, (⟨(quoteL done).toArray⟩ : ByteArray) = q := ⟨_, rfl⟩
      have HQ2 := Lib.hid hqq
      go_wp2_with (go_at_call 15; refine HQ.out.mono ?_)
      rintro e w2 ⟨rfl, hb2⟩
      by_cases heq : q = s
      · have hd : decide (q = s) = true := decide_eq_true heq
        have e1 : r = ⟨done.toArray⟩ := by rw [Hr.out, hqq, if_pos heq]
        have hd3 : (q.toList == s.toList) = true := by rw [heq]; exact beq_self_eq_true _
        have e2 : bq = true := by rw [Hbq.out, hqq, hd]
        rw [hqq]
        clear hqq
        subst e1 e2
        go_wp2_with fail
        all_goals (refine bodyPost_ret (results_tmp2 rfl _ _ _) rfl ?_; exact ⟨rfl, hb.trans (hb2.mono hszr)⟩)
      · have hd : decide (q = s) = false := decide_eq_false heq
        have e1 : r = ⟨#[]⟩ := by rw [Hr.out, hqq, if_neg heq]
        have hd3 : (q.toList == s.toList) = false := by
          rw [beq_eq_false_iff_ne]
          intro h
          rw [ByteArray.toList_eq, ByteArray.toList_eq] at h
          exact heq (ByteArray.ext (Array.toList_inj.1 h))
        have e2 : bq = false := by rw [Hbq.out, hqq, hd]
        rw [hqq]
        clear hqq
        subst e1 e2
        go_wp2_with fail
        all_goals (refine bodyPost_ret (results_tmp2 rfl _ _ _) rfl ?_; exact ⟨rfl, hb.trans (hb2.mono hszr)⟩)
    | @raw c l out1 hc hU =>
      have HU := Lib.hid hU
      clear hU
      have hget : (⟨(c :: l).toArray⟩ : ByteArray).size = l.length + 1 := by simp [ByteArray.size]
      have hg0 : ∀ h, (⟨(c :: l).toArray⟩ : ByteArray)[0]'h = c := fun h => rfl
      have he1 : (⟨(c :: l).toArray⟩ : ByteArray).extract 1 (l.length + 1) = ⟨l.toArray⟩ := by
        rw [extract_list]
        simp
      have hBd : BytesAt w.heap.size u4 done wr.drew := hB
      have hcF : ((c.toNat : Int) != 37) = true := by
        simp
        intro h
        exact hc (UInt8.toNat_inj.1 (by rw [show c.toNat = 37 by omega]; rfl))
      go_wp2_with fail
      have h1l : (1 : Int) ≤ (l.length : Int) + 1 := by omega
      have hlen2 : l.length + 1 ≤ mid.length := hll
      go_region_law ((refine step_append_lies _ (by rfl) _ _ 71 (by rfl) w.heap.size 5 i0 (.int .u8 0) 1 1 Tryz.underlying71 hi hz0 hz1 hz2 (by rfl) (by decide) u4 done.length (done.map byteV) (by rfl) (World.ownsRow.alloc hBd _) ⟨wr.heap.size, 0, none⟩ 1 1 [.int .u8 (c.toNat : Int)] (by rfl) (by rfl) (cell_one_new wr.drew _ _) (by intro u hu; simp at hu; subst hu; rfl) (by decide) (by unfold maxLen; omega) (by omega) (by simp; omega) (wr.heap.size + 1) (by simp) ?_; intro g cap w1 hown hgrow hat hlt))
      go_simp
      go_wp2
      refine ⟨⟨l, out1, done ++ [c], rfl, by omega, ?_, bytes_snoc hown, below_own ((below_drew hb).alloc hszr _) (by simp; omega) (World.ownsRow.alloc hBd _) (Nat.le_refl _) hgrow, HU.out, ?_⟩, ?_⟩
      · simp only [List.length_append, List.length_cons, List.length_nil] at hdn ⊢
        omega
      · rw [← HD.out]
        simp
      · exact Nat.lt_succ_self l.length
    | @hex b l out1 hU =>
      have HU := Lib.hid hU
      clear hU
      have e : pct b ++ l = 37 :: hexD (b.toNat / 16) :: hexD (b.toNat % 16) :: l := rfl
      rw [e] at hll
      rw [e]
      clear e
      have hbl := b.toNat_lt
      have hpu := str_ParseUint (b.toNat / 16) (b.toNat % 16) (by omega) (by omega) wr
      have hb16 : 16 * (b.toNat / 16) + b.toNat % 16 = b.toNat := by omega
      rw [hb16] at hpu
      clear hb16
      generalize hexD (b.toNat / 16) = h1 at *
      generalize hexD (b.toNat % 16) = h2 at *
      have HP := Lib.hid hpu
      clear hpu
      have hget : (⟨(37 :: h1 :: h2 :: l).toArray⟩ : ByteArray).size = l.length + 3 := by simp [ByteArray.size]
      have hg0 : ∀ h, (⟨(37 :: h1 :: h2 :: l).toArray⟩ : ByteArray)[0]'h = 37 := fun h => rfl
      have hmin : min (3 : Int) ((l.length : Int) + 3) = 3 := by omega
      have he1 : (⟨(37 :: h1 :: h2 :: l).toArray⟩ : ByteArray).extract 1 3 = ⟨#[h1, h2]⟩ := by
        rw [extract_list]
        simp
      have he2 : (⟨(37 :: h1 :: h2 :: l).toArray⟩ : ByteArray).extract 3 (l.length + 3) = ⟨l.toArray⟩ := by
        rw [extract_list]
        simp
      have hwb : IntKind.u8.wrap (b.toNat : Int) = (b.toNat : Int) := IntWalk.u8_in _ (by omega)
      have hll2 : l.length + 3 ≤ mid.length := hll
      go_wp2_with (go_at_call 30; refine HP.out.mono ?_)
      rintro e w2 ⟨rfl, hb2⟩
      have hbw := hb.trans (hb2.mono hszr)
      have hszw := hbw.size
      have hB2 := hB.keep hb2
      have hBd : BytesAt w.heap.size u4 done w2.drew := hB2
      have h3l : (3 : Int) ≤ (l.length : Int) + 3 := by omega
      go_wp2_with fail
      go_region_law ((refine step_append_lies _ (by rfl) _ _ 71 (by rfl) w.heap.size 5 i0 (.int .u8 0) 1 1 Tryz.underlying71 hi hz0 hz1 hz2 (by rfl) (by decide) u4 done.length (done.map byteV) (by rfl) (World.ownsRow.alloc hBd _) ⟨w2.heap.size, 0, none⟩ 1 1 [.int .u8 (b.toNat : Int)] (by rfl) (by rfl) (cell_one_new w2.drew _ _) (by intro u hu; simp at hu; subst hu; rfl) (by decide) (by unfold maxLen; omega) (by omega) (by simp; omega) (w2.heap.size + 1) (by simp) ?_; intro g cap w3 hown hgrow hat hlt))
      all_goals
        go_simp
        go_wp2
        refine ⟨⟨l, out1, done ++ [b], rfl, by omega, ?_, bytes_snoc hown, below_own ((below_drew hbw).alloc hszw _) (by simp; omega) (World.ownsRow.alloc hBd _) (Nat.le_refl _) hgrow, HU.out, ?_⟩, ?_⟩
        · simp only [List.length_append, List.length_cons, List.length_nil] at hdn ⊢
          omega
        · rw [← HD.out]
          simp
        · show (⟨l.toArray⟩ : ByteArray).size < (⟨(37 :: h1 :: h2 :: l).toArray⟩ : ByteArray).size
          rw [hget]
          simp [ByteArray.size]

theorem scr_Unquote_one (s : ByteArray) (w : World) (hs : s.size < 2) :
    Calls Tryz.prog 14 #[.string s] w fun e w' => e = .returned (.tuple #[.string ⟨#[]⟩, .bool false]) ∧ Below w.heap.size w w' := by
  go_enter Tryz.func14, Tryz.ntmps14
  go_wp2_with fail
  refine bodyPost_ret (results_tmp2 rfl _ _ _) rfl ?_
  exact ⟨rfl, Below.refl _ _⟩

end Go.Proofs.YtkgkhcfonlhphaaGreatDoor
