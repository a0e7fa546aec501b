/- The contract of script.Result: the reference's text. Conditions: 60 rows and 60 records at most, each text at most 2^20 bytes long; the library's tables as laid. -/
import Derived.Test.YtkgkhcfonlhphaaGreatDoorQuote
import Derived.Test.YtkgkhcfonlhphaaGreatDoorRefResult
import Derived.Test.YtkgkhcfonlhphaaGreatDoorGrow
import Derived.Deep.AppendLies
namespace Go.Proofs.YtkgkhcfonlhphaaGreatDoor
open Go.RowKit

theorem itoa_of4 {a b c d n : Int} (h1 : I64 a) (h2 : I64 b) (h3 : I64 c) (h4 : I64 d) (hn : n = a ∨ n = b ∨ n = c ∨ n = d) (w : World) (ht : Pow10 w) :
    Calls Tryz.prog 17 #[.int .i64 n] w fun e w' => e = .returned (.string ⟨(Lib.itoa n).toArray⟩) ∧ Below w.heap.size w w' := by
  have : I64 n := by rcases hn with rfl | rfl | rfl | rfl <;> assumption
  exact itoa_any n this.1 this.2 w ht

theorem resultL_length (x : ResV) (hE : I64 x.E) (hN : I64 x.N) (hrows : ∀ r ∈ x.rows, r.ok) (hrl : x.rows.length ≤ 60) (hlive : I64 x.live) (hfree : I64 x.free) (hwait : I64 x.wait) (hhigh : I64 x.high)
    (hrecs : ∀ r ∈ x.recs, r.ok) (hrecl : x.recs.length ≤ 60) : (resultL x).length ≤ 2000000000 := by
  have h1 := itoa_length x.live hlive.1 hlive.2
  have h2 := itoa_length x.free hfree.1 hfree.2
  have h3 := itoa_length x.wait hwait.1 hwait.2
  have h4 := itoa_length x.high hhigh.1 hhigh.2
  have h5 := itoa_length x.E hE.1 hE.2
  have h6 := itoa_length x.N hN.1 hN.2
  have hs : (statL x).length ≤ 200 := by
    unfold statL
    split
    · simp
    · simp only [List.length_append, List.length_cons, List.length_nil]; omega
  have hn : (numL [110] x.N).length ≤ 30 := by
    unfold numL
    split <;> simp; omega
  have hr := flat_length_mem rowL 8000000 x.rows (fun r hr => rowL_length r (hrows r hr))
  have hc := flat_length_mem recL 8000000 x.recs (fun r hr => recL_length r (hrecs r hr))
  have hr2 : x.rows.length * 8000000 ≤ 60 * 8000000 := Nat.mul_le_mul_right _ hrl
  have hc2 : x.recs.length * 8000000 ≤ 60 * 8000000 := Nat.mul_le_mul_right _ hrecl
  simp only [resultL, headL, List.length_append, List.length_cons, List.length_nil]
  omega

theorem tab_below {P : Program} {w w' : World} {name : String} {k : IntKind} {zs : List Int} (h : Lib.TabIs P w name k zs) (hb : Below w.heap.size w w') : Lib.TabIs P w' name k zs := by
  unfold Lib.TabIs World.var? at *
  cases hg : P.globalNamed name with
  | none => simp [hg] at h
  | some g =>
    simp only [hg, Option.bind_some] at h ⊢
    have hlt : g < w.heap.size := by
      rcases Nat.lt_or_ge g w.heap.size with h1 | h1
      · exact h1
      · rw [Array.getElem?_eq_none h1] at h; cases h
    rw [hb.block g hlt]
    exact h

/-- the library's tables that the text reads, as laid -/
structure Tabs (w : World) : Prop where
  pow : Pow10 w
  utf : Lib.Utf8Tabs 1 2 w
theorem Tabs.below {w w' : World} (h : Tabs w) (hb : Below w.heap.size w w') : Tabs w' := ⟨tab_below h.pow hb, Utf8Tabs_below h.utf hb⟩
theorem Tabs.gr {w w' : World} (h : Tabs w) (hb : Gr w w') : Tabs w' := h.below hb

def strV (l : List UInt8) : Value := .string ⟨l.toArray⟩

def rowW (r : RowV) : List UInt8 := Lib.itoa r.label ++ 58 :: (quoteL r.key.data.toList ++ 61 :: quoteL r.val.data.toList)
def recW (r : RecV) : List UInt8 := Lib.itoa r.actor ++ 58 :: (Lib.itoa r.src ++ 62 :: (Lib.itoa r.dst ++ 58 :: (quoteL r.bucket.data.toList ++ 47 :: (quoteL r.key.data.toList ++ 35 :: Lib.itoa r.digest))))
def numW (n : Int) : List (List UInt8) := if n = 0 then [] else [[110, 61] ++ Lib.itoa n]
def statW (x : ResV) : List (List UInt8) := if x.live = 0 ∧ x.free = 0 ∧ x.wait = 0 ∧ x.high = 0 then [] else
  [[108, 105, 118, 101, 61] ++ Lib.itoa x.live, [102, 114, 101, 101, 61] ++ Lib.itoa x.free, [119, 97, 105, 116, 61] ++ Lib.itoa x.wait, [104, 105, 103, 104, 61] ++ Lib.itoa x.high]
def headW (x : ResV) : List (List UInt8) := ([101, 61] ++ Lib.itoa x.E) :: numW x.N

theorem join_cons (a : List UInt8) (l : List (List UInt8)) : Lib.join (a :: l) [32] = a ++ l.flatMap (fun x => 32 :: x) := by
  induction l generalizing a with
  | nil => simp [Lib.join, List.intercalate]
  | cons b l ih =>
    have := ih b
    simp only [Lib.join, List.intercalate, List.intersperse_cons_cons, List.flatten_cons] at this ⊢
    rw [this]
    simp

theorem result_words (x : ResV) : Lib.join (headW x ++ x.rows.map rowW ++ statW x ++ x.recs.map recW) [32] = resultL x := by
  unfold headW
  simp only [List.cons_append, join_cons, List.flatMap_append, List.flatMap_map]
  unfold resultL headL
  have e1 : (numW x.N).flatMap (fun x => 32 :: x) = numL [110] x.N := by unfold numW numL; split <;> simp
  have e2 : x.rows.flatMap (fun a => 32 :: rowW a) = x.rows.flatMap rowL := rfl
  have e3 : x.recs.flatMap (fun a => 32 :: recW a) = x.recs.flatMap recL := rfl
  have e4 : (statW x).flatMap (fun x => 32 :: x) = statL x := by unfold statW statL; split <;> simp
  rw [e1, e2, e3, e4]
  simp

theorem own_lit (w : World) (cs : Array Value) (e : TypeId) (B : Nat) (hB : B ≤ w.heap.size) (hs : cs.size ≤ 1000) : (w.alloc (.cells cs e)).ownsRow B e 1 (.slice (some ⟨w.heap.size, 0, none⟩) cs.size cs.size) cs.size cs.toList :=
  ⟨by simp, .inr ⟨w.heap.size, cs.size, cs, rfl, hB, heap_alloc_new w _, Nat.le_refl _, by unfold maxLen; omega, by simp, List.take_of_length_le (by simp)⟩⟩

theorem str_info : (Tryz.prog.info? 9).map (fun i => (i.zero, i.size, i.bytes)) = some (some (.string ⟨#[]⟩), 1, 16) := by kernel_rfl

theorem below_own {B B' : Nat} {a w w' : World} {v : Value} {e : TypeId} {n : Nat} {xs : List Value} (h : Below B a w) (hs : B ≤ w.heap.size) (hown : w.ownsRow B' e 1 v n xs) (hBB : B ≤ B') (hg : w.grownBy w' v.ownBlock) : Below B a w' :=
  h.grown hg hs (fun k hk => by
    rcases hown.2 with ⟨rfl, _⟩ | ⟨g, _, _, rfl, hb, _⟩
    · simp [Value.ownBlock] at hk
    · simp [Value.ownBlock] at hk
      omega)

/-- the words so far -/
def WordsAt (B : Nat) (v : Value) (ws : List (List UInt8)) (w : World) : Prop := w.ownsRow B 9 1 v ws.length (ws.map strV)

theorem words_lit (w : World) (l : List UInt8) (B : Nat) (hB : B ≤ w.heap.size) : WordsAt B (.slice (some ⟨w.heap.size, 0, none⟩) 1 1) [l] (w.alloc (.cells #[.string ⟨l.toArray⟩] 9)) :=
  own_lit w #[.string ⟨l.toArray⟩] _ B hB (by simp)

theorem own_keep {w w' : World} {B : Nat} {e : TypeId} {size : Nat} {v : Value} {n : Nat} {xs : List Value} (h : w.ownsRow B e size v n xs) (hb : Below w.heap.size w w') : w'.ownsRow B e size v n xs := by
  refine ⟨h.1, ?_⟩
  rcases h.2 with hn | ⟨g, cap, cur, hv, hbg, hg, rest⟩
  · exact .inl hn
  · exact .inr ⟨g, cap, cur, hv, hbg, (hb.block g (Array.getElem?_eq_some_iff.1 hg).1).trans hg, rest⟩
theorem WordsAt.keep {B : Nat} {v : Value} {ws : List (List UInt8)} {w w' : World} (h : WordsAt B v ws w) (hb : Below w.heap.size w w') : WordsAt B v ws w' := own_keep h hb

theorem words_snoc {B : Nat} {v' : Value} {ws : List (List UInt8)} {l : List UInt8} {w' : World} (h : w'.ownsRow B 9 1 v' (ws.length + 1) (ws.map strV ++ [.string ⟨l.toArray⟩])) : WordsAt B v' (ws ++ [l]) w' := by
  unfold WordsAt
  rw [List.length_append, List.map_append]
  exact h

theorem words_snoc4 {B : Nat} {v' : Value} {ws : List (List UInt8)} {a b c d : List UInt8} {w' : World} (h : w'.ownsRow B 9 1 v' (ws.length + 4) (ws.map strV ++ [.string ⟨a.toArray⟩, .string ⟨b.toArray⟩, .string ⟨c.toArray⟩, .string ⟨d.toArray⟩])) : WordsAt B v' (ws ++ [a, b, c, d]) w' := by
  unfold WordsAt
  rw [List.length_append, List.map_append]
  exact h

theorem words_form {B : Nat} {v : Value} {ws : List (List UInt8)} {w : World} (h : WordsAt B v ws w) (hne : ws ≠ []) : ∃ g cap, v = .slice (some ⟨g, 0, none⟩) ws.length cap ∧ g < w.heap.size ∧ ws.length ≤ cap ∧ ∀ (j : Nat) (x : ByteArray), (ws.map (fun l => (⟨l.toArray⟩ : ByteArray)))[j]? = some x → w.cell? ⟨g, 0 + j, none⟩ = some (.string x) := by
  have hl : 0 < ws.length := List.length_pos_iff.2 hne
  rcases h.2 with ⟨_, h0⟩ | ⟨g, cap, cur, hv, hb, hg, hc, _⟩
  · omega
  · refine ⟨g, cap, hv, (Array.getElem?_eq_some_iff.1 hg).1, hc, fun j x hj => ?_⟩
    have := World.ownsRow.cells (g := g) h (by rw [hv]; rfl) j (.string x) (by
      rw [List.getElem?_map] at hj ⊢
      obtain ⟨l, hl, rfl⟩ := Option.map_eq_some_iff.1 hj
      rw [hl]
      rfl)
    rw [Lib.add_plain] at this
    exact this

theorem headW_length (x : ResV) : (headW x).length ≤ 2 := by
  unfold headW numW
  split <;> simp

set_option maxHeartbeats 1000000 in
set_option maxRecDepth 100000 in
theorem scr_Result (x : ResV) (A : Option Addr) (n c : Nat) (A2 : Option Addr) (n2 c2 : Nat) (w : World) (hx : x.ok) (hA : ResAt w x A n c A2 n2 c2) (hT : Tabs w) :
    Calls Tryz.prog 6 #[resVal x A n c A2 n2 c2] w fun e w' => e = .returned (.string ⟨(resultL x).toArray⟩) ∧ Below w.heap.size w w' := by
  obtain ⟨i0, hi, hz0, hz1, hz2⟩ := info_parts str_info
  obtain ⟨E, N, rows, live, free, wait, high, recs⟩ := x
  obtain ⟨hE, hN, hrows, hrl, hlive, hfree, hwait, hhigh, hrecs, hrecl⟩ := hx
  obtain ⟨hn, hn2, hnc, hnc2, hR, hR2⟩ := hA
  simp only at *
  unfold resVal
  simp only
  have hle := itoa_length E hE.1 hE.2
  have hlN := itoa_length N hN.1 hN.2
  have hT0 := hT.gr (w' := w.alloc (resBox ⟨E, N, rows, live, free, wait, high, recs⟩ A rows.length c A2 recs.length c2)) ((Below.refl _ _).alloc (Nat.le_refl _) _)
  have hTg : ∀ wr, Gr (w.alloc (resBox ⟨E, N, rows, live, free, wait, high, recs⟩ A rows.length c A2 recs.length c2)) wr → Tabs wr := fun wr h => hT0.gr h
  have HTg := Lib.hid hTg
  clear hTg
  go_enter Tryz.func6, Tryz.ntmps6
  go_wp2_with (go_at_call 17; refine (itoa_any E hE.1 hE.2 _ hT0.pow).mono ?_)
  rintro e w1 ⟨rfl, hb1⟩
  have hg1 : Gr (w.alloc (resBox ⟨E, N, rows, live, free, wait, high, recs⟩ A rows.length c A2 recs.length c2)) w1 := hb1
  have hws1 : w.heap.size < w1.heap.size := by have := hb1.size; simp at this; omega
  have cc1 : w1.cell? ⟨w.heap.size, 1, none⟩ = some (.int .i64 N) := by rw [hg1.cell (p := ⟨w.heap.size, 1, none⟩) (by simp)]; simp [resBox]
  clear hb1
  go_upto_if 17 with (fail)
  go_cut [3] (fun s wc => WordsAt (w.heap.size + 1) s (headW ⟨E, N, rows, live, free, wait, high, recs⟩) wc ∧ Gr (w.alloc (resBox ⟨E, N, rows, live, free, wait, high, recs⟩ A rows.length c A2 recs.length c2)) wc)
  case first =>
    by_cases hz : N = 0
    · have hzN : (N != 0) = false := by simp [hz]
      have Hz := Lib.hid hz
      clear hz
      go_wp2
      go_meet
      refine ⟨?_, hg1.alloc hg1.size _⟩
      have := words_lit w1 ([101, 61] ++ Lib.itoa E) (w.heap.size + 1) (by omega)
      rw [← data_app] at this
      unfold headW numW
      rw [if_pos Hz.out]
      exact this
    · have hzN : (N != 0) = true := by simp [hz]
      have Hz := Lib.hid hz
      clear hz
      have h1 := words_lit w1 ([101, 61] ++ Lib.itoa E) (w.heap.size + 1) (by omega)
      rw [← data_app] at h1
      have hT1 := HTg.out _ (hg1.alloc hg1.size (.cells #[.string (⟨#[101, 61]⟩ ++ ⟨(Lib.itoa E).toArray⟩)] 9))
      go_wp2_with (go_at_call 17; refine (itoa_any N hN.1 hN.2 _ hT1.pow).mono ?_)
      rintro e w2 ⟨rfl, hb2⟩
      have hg2 := (hg1.alloc hg1.size _).trans (hb2.mono (by simp; omega))
      have hws2 : w.heap.size < w2.heap.size := by have := hg2.size; simp at this; omega
      have h2 := h1.keep hb2
      go_wp2_with (at_builtin; refine wpList_append_own _ rfl _ _ 34 rfl (w.heap.size + 1) 9 i0 (.string ⟨#[]⟩) 1 16 Tryz.underlying34 hi hz0 hz1 hz2 rfl (by decide) _ _ _ rfl (h2.alloc _) ⟨w2.heap.size, 0, none⟩ 1 1 [.string (⟨#[110, 61]⟩ ++ ⟨(Lib.itoa N).toArray⟩)] rfl rfl ?c1 ?c2 ?c3 ?c4 ?c5 ?_)
      case c1 => exact cell_one_new _ _ _
      case c2 => intro u hu; simp at hu; subst hu; rfl
      case c3 => unfold maxLen; simp
      case c4 => simp
      case c5 => simp; omega
      intro v' w3 hown hgrow _
      go_wp2
      go_meet
      refine ⟨?_, below_own (hg2.alloc hg2.size _) (by simp; omega) (h2.alloc _) (by simp) hgrow⟩
      unfold headW numW
      rw [if_neg Hz.out]
      rw [data_app] at hown
      exact words_snoc (ws := [[101, 61] ++ Lib.itoa E]) (l := [110, 61] ++ Lib.itoa N) hown
  case rest =>
    obtain ⟨hW, hg⟩ := hcut
    have hrowW : ∀ r ∈ rows, (rowW r).length ≤ 8000000 := fun r hr => by
      have := rowL_length r (hrows r hr)
      exact Nat.le_trans (by simp [rowL, rowW]) this
    have cc2 := hg.cell (p := ⟨w.heap.size, 2, none⟩) (by simp)
    have cc2' : (w.alloc (resBox ⟨E, N, rows, live, free, wait, high, recs⟩ A rows.length c A2 recs.length c2)).cell? ⟨w.heap.size, 2, none⟩ = some (.slice A rows.length c) := by simp [resBox]
    rw [cc2'] at cc2
    clear cc2' cc1
    go_wp2_with fail
    go_loopw [3, 28] (fun s i wr => ∃ (k : Nat) (ws : List (List UInt8)), k ≤ rows.length ∧ i = .int .i64 (k : Int) ∧ WordsAt (w.heap.size + 1) s ws wr ∧ ws = headW ⟨E, N, rows, live, free, wait, high, recs⟩ ++ (rows.take k).map rowW ∧ Gr (w.alloc (resBox ⟨E, N, rows, live, free, wait, high, recs⟩ A rows.length c A2 recs.length c2)) wr) (fun _ i _ => rows.length - (intOf i).toNat)
    case atStart => exact ⟨0, _, by omega, rfl, hW, by simp, hg⟩
    case round =>
      clear hW hg cc2
      obtain ⟨k, ws, hk, rfl, hW, hwe, hg⟩ := hrel
      have hlw : ws.length ≤ 70 := by
        have := headW_length ⟨E, N, rows, live, free, wait, high, recs⟩
        rw [hwe]
        simp only [List.length_append, List.length_map, List.length_take]
        omega
      have HW := Lib.hid hwe
      clear hwe
      have hws : w.heap.size < wr.heap.size := by have := hg.size; simp at this; omega
      by_cases hlt : k < rows.length
      · obtain ⟨b, o, rfl, hb, hcell⟩ := hR.2 (by omega)
        have hrk : rows[k]? = some rows[k] := List.getElem?_eq_getElem hlt
        have hrm : rows[k] ∈ rows := List.getElem_mem hlt
        generalize rows[k] = r at *
        obtain ⟨key, lab, val⟩ := r
        obtain ⟨hk1, hk2, hk3⟩ := hrows _ hrm
        simp only at hk1 hk2 hk3
        have hil := itoa_length lab hk2.1 hk2.2
        have hql1 := quote_len key
        have hql2 := quote_len val
        have get : ∀ j v, j < 3 → (rowCells ⟨key, lab, val⟩)[j]? = some v → wr.cell? ⟨b, o + k * 3 + j, none⟩ = some v := by
          intro j v hj hv
          rw [hg.cell (p := ⟨b, o + k * 3 + j, none⟩) (by simp; omega), World.cell?_alloc_lt _ _ _ hb, Nat.add_assoc]
          exact hcell _ _ (by rw [flat_get rowCells 3 (fun _ => rfl) rows k _ j hrk hj]; exact hv)
        have e0 : wr.cell? ⟨b, o + k * 3, none⟩ = some (.string key) := get 0 _ (by omega) rfl
        have e1 := get 1 _ (by omega) rfl
        have e2 := get 2 _ (by omega) rfl
        clear get
        have hTr := (HTg.out wr hg).gr (w' := wr.alloc (.cells #[.string key, .int .i64 lab, .string val] 50)) ((Below.refl _ _).alloc (Nat.le_refl _) _)
        go_wp2_with fail
        refine wp_region_grow_float _ 13 (by kernel_rfl) (by kernel_rfl) (fun _ _ _ h => h) (Or.inl ⟨by rfl, fun _ => by rfl⟩) ?_
        simp only [List.take_succ_cons, List.take_zero, List.drop_succ_cons, List.drop_zero]
        repeat (refine wpQuiet_step (fun K hK => ?_); go_simp; first | (refine hK _ ?_; clear hK K) | (apply Exists.intro; refine ⟨fun w' hw' => ?_, hK _ ?_⟩; (first | (rw [if_neg (by omega)]; exact ⟨rfl, rfl⟩) | (go_at_call 17; refine (itoa_any _ hk2.1 hk2.2 _ (hTr.gr hw').pow).mono ?_; rintro e w'' ⟨rfl, hb⟩; exact ⟨rfl, hw'.trans' hb⟩) | (go_at_call 15; refine (scr_Quote _ _ (by omega) (hTr.gr hw').utf).mono ?_; rintro e w'' ⟨rfl, hb⟩; exact ⟨rfl, hw'.trans' hb⟩) | (obtain ⟨hc, hf⟩ := bcell hw'; go_simp; first | exact ⟨rfl, rfl⟩ | rfl)); clear hK K))
        refine wpQuiet_nil ?_
        intro w2 hw2
        have hg2 := (hg.alloc hg.size (.cells #[.string key, .int .i64 lab, .string val] 50)).trans (hw2.mono (by simp; omega))
        have hws2 : w.heap.size < w2.heap.size := by have := hg2.size; simp at this; omega
        have h2 : WordsAt _ _ _ w2 := WordsAt.keep (show WordsAt _ _ _ (wr.alloc (.cells #[.string key, .int .i64 lab, .string val] 50)) from World.ownsRow.alloc hW _) hw2
        go_wp2_with (at_builtin; refine wpList_append_own _ rfl _ _ 34 rfl (w.heap.size + 1) 9 i0 (.string ⟨#[]⟩) 1 16 Tryz.underlying34 hi hz0 hz1 hz2 rfl (by decide) _ _ _ rfl (h2.alloc _) ⟨w2.heap.size, 0, none⟩ 1 1 [.string (⟨(Lib.itoa lab).toArray⟩ ++ ⟨#[58]⟩ ++ ⟨(quoteL key.data.toList).toArray⟩ ++ ⟨#[61]⟩ ++ ⟨(quoteL val.data.toList).toArray⟩)] rfl rfl ?c1 ?c2 ?c3 ?c4 ?c5 ?_)
        case c1 => exact cell_one_new _ _ _
        case c2 => intro u hu; simp at hu; subst hu; rfl
        case c3 => unfold maxLen; omega
        case c4 => omega
        case c5 => simp; omega
        intro v' w3 hown hgrow _
        go_wp2
        refine ⟨⟨k + 1, ws ++ [rowW ⟨key, lab, val⟩], by omega, by go_num, ?_, ?_, below_own (hg2.alloc hg2.size _) (by simp; omega) (h2.alloc _) (by simp) hgrow⟩, by simp [intOf]; omega⟩
        · simp only [data_app] at hown
          have e : Lib.itoa lab ++ [58] ++ quoteL key.data.toList ++ [61] ++ quoteL val.data.toList = rowW ⟨key, lab, val⟩ := by simp [rowW]
          rw [e] at hown
          exact words_snoc hown
        · rw [HW.out, List.take_add_one, hrk, List.map_append, ← List.append_assoc]
          rfl
      · have hkk : rows.take k = rows := List.take_of_length_le (by omega)
        have hwe2 : ws = headW ⟨E, N, rows, live, free, wait, high, recs⟩ ++ rows.map rowW := by rw [HW.out, hkk]
        have HW2 := Lib.hid hwe2
        clear hkk hwe2 HW
        have c3 : wr.cell? ⟨w.heap.size, 3, none⟩ = some (.int .i64 live) := by rw [hg.cell (p := ⟨w.heap.size, 3, none⟩) (by simp)]; simp [resBox]
        have c4 : wr.cell? ⟨w.heap.size, 4, none⟩ = some (.int .i64 free) := by rw [hg.cell (p := ⟨w.heap.size, 4, none⟩) (by simp)]; simp [resBox]
        have c5 : wr.cell? ⟨w.heap.size, 5, none⟩ = some (.int .i64 wait) := by rw [hg.cell (p := ⟨w.heap.size, 5, none⟩) (by simp)]; simp [resBox]
        have c6 : wr.cell? ⟨w.heap.size, 6, none⟩ = some (.int .i64 high) := by rw [hg.cell (p := ⟨w.heap.size, 6, none⟩) (by simp)]; simp [resBox]
        have hne := stats_ne live free wait high
        have hTr := (HTg.out wr hg).gr (w' := wr.alloc (.cells #[.int .i64 live, .int .i64 free, .int .i64 wait, .int .i64 high] 25)) ((Below.refl _ _).alloc (Nat.le_refl _) _)
        have hgA := hg.alloc hg.size (.cells #[.int .i64 live, .int .i64 free, .int .i64 wait, .int .i64 high] 25)
        have hWA : WordsAt _ _ _ (wr.alloc (.cells #[.int .i64 live, .int .i64 free, .int .i64 wait, .int .i64 high] 25)) := World.ownsRow.alloc hW _
        go_upto_if 53 with (fail)
        go_cut [3] (fun s wc => ∃ us : List (List UInt8), WordsAt (w.heap.size + 1) s us wc ∧ us = ws ++ statW ⟨E, N, rows, live, free, wait, high, recs⟩ ∧ Gr (w.alloc (resBox ⟨E, N, rows, live, free, wait, high, recs⟩ A rows.length c A2 recs.length c2)) wc)
        case first =>
          cases hz : zeroStats live free wait high with
          | true =>
            have hzz : (!zeroStats live free wait high) = false := by rw [hz]; rfl
            have Hz := Lib.hid hz
            clear hz
            go_wp2_with fail
            go_meet
            have hzc := of_decide_eq_true Hz.out
            refine ⟨ws, hWA, ?_, hgA⟩
            unfold statW
            rw [if_pos hzc, List.append_nil]
          | false =>
            have hzz : (!zeroStats live free wait high) = true := by rw [hz]; rfl
            have Hz := Lib.hid hz
            clear hz
            have h1 := itoa_length live hlive.1 hlive.2
            have h2 := itoa_length free hfree.1 hfree.2
            have h3 := itoa_length wait hwait.1 hwait.2
            have h4 := itoa_length high hhigh.1 hhigh.2
            go_wp2_with fail
            refine wp_region_grow_float _ 16 (by kernel_rfl) (by kernel_rfl) (fun _ _ _ h => h) (Or.inl ⟨by rfl, fun _ => by rfl⟩) ?_
            simp only [List.take_succ_cons, List.take_zero, List.drop_succ_cons, List.drop_zero]
            repeat (refine wpQuiet_step (fun K hK => ?_); go_simp; first | (refine hK _ ?_; clear hK K) | (apply Exists.intro; refine ⟨fun w' hw' => ?_, hK _ ?_⟩; (first | (rw [if_neg (by omega)]; exact ⟨rfl, rfl⟩) | (go_at_call 17; refine (itoa_of4 hlive hfree hwait hhigh (by simp) _ (hTr.gr hw').pow).mono ?_; rintro e w'' ⟨rfl, hb⟩; exact ⟨rfl, hw'.trans' hb⟩) | (obtain ⟨hc, hf⟩ := bcell hw'; go_simp; first | exact ⟨rfl, rfl⟩ | rfl)); clear hK K))
            refine wpQuiet_nil ?_
            intro w2 hw2
            have hg2 := hgA.trans (hw2.mono (by simp; omega))
            have hws2 : w.heap.size < w2.heap.size := by have := hg2.size; simp at this; omega
            have hW2 := hWA.keep hw2
            go_wp2_with (at_builtin; refine wpList_append_own _ rfl _ _ 34 rfl (w.heap.size + 1) 9 i0 (.string ⟨#[]⟩) 1 16 Tryz.underlying34 hi hz0 hz1 hz2 rfl (by decide) _ _ _ rfl (hW2.alloc _) ⟨w2.heap.size, 0, none⟩ 4 4 [.string (⟨#[108, 105, 118, 101, 61]⟩ ++ ⟨(Lib.itoa live).toArray⟩), .string (⟨#[102, 114, 101, 101, 61]⟩ ++ ⟨(Lib.itoa free).toArray⟩), .string (⟨#[119, 97, 105, 116, 61]⟩ ++ ⟨(Lib.itoa wait).toArray⟩), .string (⟨#[104, 105, 103, 104, 61]⟩ ++ ⟨(Lib.itoa high).toArray⟩)] rfl rfl ?d1 ?d2 ?d3 ?d4 ?d5 ?_)
            case d1 => exact World.news_of_block (t := 9) (fr := (0, 0)) (heap_alloc_new _ _)
            case d2 => intro u hu; simp at hu; rcases hu with rfl | rfl | rfl | rfl <;> rfl
            case d3 => unfold maxLen; omega
            case d4 => omega
            case d5 => simp; omega
            intro v' w3 hown hgrow _
            go_wp2_with fail
            go_meet
            have hzc := of_decide_eq_false Hz.out
            simp only [data_app] at hown
            refine ⟨_, words_snoc4 hown, ?_, below_own (hg2.alloc hg2.size _) (by simp; omega) (hW2.alloc _) (by simp) hgrow⟩
            unfold statW
            rw [if_neg hzc]
        case rest =>
          clear hTr hgA hWA c3 c4 c5 c6 hW hg hws hne
          obtain ⟨us, hW, hus, hg⟩ := hcut
          have hul : us.length ≤ 80 := by
            have : (statW ⟨E, N, rows, live, free, wait, high, recs⟩).length ≤ 4 := by unfold statW; split <;> simp
            rw [hus, List.length_append]
            omega
          have HU := Lib.hid hus
          have c7 : wc.cell? ⟨w.heap.size, 7, none⟩ = some (.slice A2 recs.length c2) := by rw [hg.cell (p := ⟨w.heap.size, 7, none⟩) (by simp)]; simp [resBox]
          clear hus
          go_wp2_with fail
          go_loopw [3, 76] (fun s i wr => ∃ (k : Nat) (ws : List (List UInt8)), k ≤ recs.length ∧ i = .int .i64 (k : Int) ∧ WordsAt (w.heap.size + 1) s ws wr ∧ ws = us ++ (recs.take k).map recW ∧ Gr (w.alloc (resBox ⟨E, N, rows, live, free, wait, high, recs⟩ A rows.length c A2 recs.length c2)) wr) (fun _ i _ => recs.length - (intOf i).toNat)
          case atStart => exact ⟨0, _, by omega, rfl, hW, by simp, hg⟩
          case round =>
            clear hW hg c7 hlt
            obtain ⟨k, ws2, hk, rfl, hW, hwe, hg⟩ := hrel
            have hlw2 : ws2.length ≤ 150 := by
              rw [hwe]
              simp only [List.length_append, List.length_map, List.length_take]
              omega
            have HV := Lib.hid hwe
            clear hwe
            have hws : w.heap.size < wr.heap.size := by have := hg.size; simp at this; omega
            by_cases hlt : k < recs.length
            · obtain ⟨b, o, rfl, hb, hcell⟩ := hR2.2 (by omega)
              have hrk : recs[k]? = some recs[k] := List.getElem?_eq_getElem hlt
              have hrm : recs[k] ∈ recs := List.getElem_mem hlt
              generalize recs[k] = r at *
              obtain ⟨actor, src, dst, bucket, key, digest⟩ := r
              obtain ⟨ha1, ha2, ha3, ha4, ha5, ha6⟩ := hrecs _ hrm
              simp only at ha1 ha2 ha3 ha4 ha5 ha6
              have hdg : I64 (digest : Int) := ⟨by omega, by omega⟩
              have l1 := itoa_length actor ha1.1 ha1.2
              have l2 := itoa_length src ha2.1 ha2.2
              have l3 := itoa_length dst ha3.1 ha3.2
              have l4 := itoa_length (digest : Int) hdg.1 hdg.2
              have q1 := quote_len bucket
              have q2 := quote_len key
              have hw64 : IntKind.u64.wrap (digest : Int) = digest := by rw [IntKind.wrap_u64]; omega
              have get : ∀ j v, j < 6 → (recCells ⟨actor, src, dst, bucket, key, digest⟩)[j]? = some v → wr.cell? ⟨b, o + k * 6 + j, none⟩ = some v := by
                intro j v hj hv
                rw [hg.cell (p := ⟨b, o + k * 6 + j, none⟩) (by simp; omega), World.cell?_alloc_lt _ _ _ hb, Nat.add_assoc]
                exact hcell _ _ (by rw [flat_get recCells 6 (fun _ => rfl) recs k _ j hrk hj]; exact hv)
              have e0 : wr.cell? ⟨b, o + k * 6, none⟩ = some (.int .i64 actor) := get 0 _ (by omega) rfl
              have e1 := get 1 _ (by omega) rfl
              have e2 := get 2 _ (by omega) rfl
              have e3 := get 3 _ (by omega) rfl
              have e4 := get 4 _ (by omega) rfl
              have e5 := get 5 _ (by omega) rfl
              clear get
              have hTr := (HTg.out wr hg).gr (w' := wr.alloc (.cells #[.int .i64 actor, .int .i64 src, .int .i64 dst, .string bucket, .string key, .int .u32 digest] 53)) ((Below.refl _ _).alloc (Nat.le_refl _) _)
              have hgA := hg.alloc hg.size (.cells #[.int .i64 actor, .int .i64 src, .int .i64 dst, .string bucket, .string key, .int .u32 digest] 53)
              have hWA : WordsAt _ _ _ (wr.alloc (.cells #[.int .i64 actor, .int .i64 src, .int .i64 dst, .string bucket, .string key, .int .u32 digest] 53)) := World.ownsRow.alloc hW _
              go_wp2_with fail
              refine wp_region_grow (by kernel_rfl) (by kernel_rfl) ?_
              repeat (refine wpQuiet_step (fun K hK => ?_); go_simp; first | (refine hK _ ?_; clear hK K) | (apply Exists.intro; refine ⟨fun w' hw' => ?_, hK _ ?_⟩; (first | (rw [if_neg (by omega)]; exact ⟨rfl, rfl⟩) | (go_at_call 17; refine (itoa_of4 ha1 ha2 ha3 hdg (by simp) _ (hTr.gr hw').pow).mono ?_; rintro e w'' ⟨rfl, hb⟩; exact ⟨rfl, hw'.trans' hb⟩) | (obtain ⟨hc, hf⟩ := bcell hw'; go_simp; first | exact ⟨rfl, rfl⟩ | rfl)); clear hK K))
              refine wpQuiet_nil ?_
              intro w2 hw2
              have hT2 := hTr.gr hw2
              have hg2 := hgA.trans (hw2.mono (by simp; omega))
              have hws2 : wr.heap.size < w2.heap.size := by have := hw2.size; simp at this; omega
              have hW2 := hWA.keep hw2
              have d3 : w2.cell? ⟨wr.heap.size, 3, none⟩ = some (.string bucket) := by rw [hw2.cell (p := ⟨wr.heap.size, 3, none⟩) (by simp)]; simp
              have d4 : w2.cell? ⟨wr.heap.size, 4, none⟩ = some (.string key) := by rw [hw2.cell (p := ⟨wr.heap.size, 4, none⟩) (by simp)]; simp
              have d5 : w2.cell? ⟨wr.heap.size, 5, none⟩ = some (.int .u32 digest) := by rw [hw2.cell (p := ⟨wr.heap.size, 5, none⟩) (by simp)]; simp
              go_wp2_with fail
              refine wp_region_grow_float _ 17 (by kernel_rfl) (by kernel_rfl) (fun _ _ _ h => h) (Or.inl ⟨by rfl, fun _ => by rfl⟩) ?_
              simp only [List.take_succ_cons, List.take_zero, List.drop_succ_cons, List.drop_zero]
              repeat (refine wpQuiet_step (fun K hK => ?_); go_simp; first | (refine hK _ ?_; clear hK K) | (apply Exists.intro; refine ⟨fun w' hw' => ?_, hK _ ?_⟩; (first | (rw [if_neg (by omega)]; exact ⟨rfl, rfl⟩) | (go_at_call 15; refine (scr_Quote _ _ (by omega) (hT2.gr hw').utf).mono ?_; rintro e w'' ⟨rfl, hb⟩; exact ⟨rfl, hw'.trans' hb⟩) | (go_at_call 18; refine (fmtUint_any digest (by omega) _ (hT2.gr hw').pow).mono ?_; rintro e w'' ⟨rfl, hb⟩; exact ⟨rfl, hw'.trans' hb⟩) | (obtain ⟨hc, hf⟩ := bcell hw'; go_simp; first | exact ⟨rfl, rfl⟩ | rfl)); clear hK K))
              refine wpQuiet_nil ?_
              intro w3 hw3
              have hg3 := hg2.trans (hw3.mono (by simp; omega))
              have hws3 : w.heap.size < w3.heap.size := by have := hg3.size; simp at this; omega
              have hW3 := hW2.keep hw3
              go_wp2_with (at_builtin; refine wpList_append_own _ rfl _ _ 34 rfl (w.heap.size + 1) 9 i0 (.string ⟨#[]⟩) 1 16 Tryz.underlying34 hi hz0 hz1 hz2 rfl (by decide) _ _ _ rfl (hW3.alloc _) ⟨w3.heap.size, 0, none⟩ 1 1 [.string (⟨(Lib.itoa actor).toArray⟩ ++ ⟨#[58]⟩ ++ ⟨(Lib.itoa src).toArray⟩ ++ ⟨#[62]⟩ ++ ⟨(Lib.itoa dst).toArray⟩ ++ ⟨#[58]⟩ ++ ⟨(quoteL bucket.data.toList).toArray⟩ ++ ⟨#[47]⟩ ++ ⟨(quoteL key.data.toList).toArray⟩ ++ ⟨#[35]⟩ ++ ⟨(Lib.itoa digest).toArray⟩)] rfl rfl ?e1 ?e2 ?e3 ?e4 ?e5 ?_)
              case e1 => exact cell_one_new _ _ _
              case e2 => intro u hu; simp at hu; subst hu; rfl
              case e3 => unfold maxLen; omega
              case e4 => omega
              case e5 => simp; omega
              intro v' w4 hown hgrow _
              go_wp2
              refine ⟨⟨k + 1, ws2 ++ [recW ⟨actor, src, dst, bucket, key, digest⟩], by omega, by go_num, ?_, ?_, below_own (hg3.alloc hg3.size _) (by simp; omega) (hW3.alloc _) (by simp) hgrow⟩, by simp [intOf]; omega⟩
              · simp only [data_app] at hown
                have e : Lib.itoa actor ++ [58] ++ Lib.itoa src ++ [62] ++ Lib.itoa dst ++ [58] ++ quoteL bucket.data.toList ++ [47] ++ quoteL key.data.toList ++ [35] ++ Lib.itoa digest = recW ⟨actor, src, dst, bucket, key, digest⟩ := by simp [recW]
                rw [e] at hown
                exact words_snoc hown
              · rw [HV.out, List.take_add_one, hrk, List.map_append, ← List.append_assoc]
                rfl
            · have hkk : recs.take k = recs := List.take_of_length_le (by omega)
              have hwe2 : ws2 = headW ⟨E, N, rows, live, free, wait, high, recs⟩ ++ rows.map rowW ++ statW ⟨E, N, rows, live, free, wait, high, recs⟩ ++ recs.map recW := by rw [HV.out, hkk, HU.out, HW2.out]
              have hne : ws2 ≠ [] := by rw [hwe2]; simp [headW]
              obtain ⟨g, cap, rfl, hgl, hcap, hcells⟩ := words_form hW hne
              have hj : Lib.join ((ws2.map (fun l => (⟨l.toArray⟩ : ByteArray))).map (·.data.toList)) [32] = resultL ⟨E, N, rows, live, free, wait, high, recs⟩ := by
                rw [List.map_map, show ((fun (x : ByteArray) => x.data.toList) ∘ fun l => (⟨l.toArray⟩ : ByteArray)) = id from funext fun l => by simp, List.map_id, hwe2]
                exact result_words _
              have hrl2 : (resultL ⟨E, N, rows, live, free, wait, high, recs⟩).length ≤ 2000000000 := resultL_length _ hE hN hrows hrl hlive hfree hwait hhigh hrecs hrecl
              have hjoin := Tryz.strings_Join g 0 cap (ws2.map (fun l => (⟨l.toArray⟩ : ByteArray))) ⟨#[32]⟩ wr hcells hgl (by simp; omega) (by simpa using hcap) (by rw [show (⟨#[32]⟩ : ByteArray).data.toList = [32] from rfl, hj]; omega)
              rw [show (⟨#[32]⟩ : ByteArray).data.toList = [32] from rfl, hj, List.length_map] at hjoin
              have HJ := Lib.hid hjoin
              clear hjoin hj hcells hwe2 hkk
              go_wp2_with (go_at_call 19; refine HJ.out.mono ?_)
              rintro e w2 ⟨rfl, hb2⟩
              go_wp2
              go_ret
              exact ⟨rfl, ((Below.refl _ _).alloc (Nat.le_refl _) _).trans (hg.mono (by simp)) |>.trans (hb2.mono (by omega))⟩

end Go.Proofs.YtkgkhcfonlhphaaGreatDoor
