/- The contract of script.Quote. Conditions: the text is at most 2^40 bytes long; the tables of unicode/utf8 are as laid. -/
import Derived.Test.YtkgkhcfonlhphaaGreatDoorQuo
import Derived.Test.YtkgkhcfonlhphaaGreatDoorBuilder
import Derived.StillTailTactics
import Derived.IntWalk
import Derived.Deep.RegionWith
namespace Go.Proofs.YtkgkhcfonlhphaaGreatDoor
open Go.RowKit Uni

theorem bld_keep {T e : TypeId} {B b : Nat} {bs : List Value} {w w' : World} (h : Lib.IsBuilderF T e B b bs w) (hb : Below w.heap.size w w') : Lib.IsBuilderF T e B b bs w' := by
  have key : ∀ p, Lib.BuilderAtF T e B b p bs w → Lib.BuilderAtF T e B b p bs w' := by
    rintro p ⟨hB, v, hbk, hown, hne⟩
    have hlt : b < w.heap.size := (Array.getElem?_eq_some_iff.1 hbk).1
    refine ⟨hB, v, (hb.block b hlt).trans hbk, ⟨hown.1, ?_⟩, hne⟩
    rcases hown.2 with hn | ⟨g, cap, cur, fz, hv, hbg, hg, rest⟩
    · exact .inl hn
    · have hgl : g < w.heap.size := (Array.getElem?_eq_some_iff.1 hg).1
      exact .inr ⟨g, cap, cur, fz, hv, hbg, (hb.block g hgl).trans hg, rest⟩
  exact h.elim (fun x => .inl (key _ x)) (fun x => .inr (key _ x))

theorem apart_keep {b k : Nat} {w w' : World} (h : Apart b k w) (hb : Below w.heap.size w w') (hlt : b < w.heap.size) : Apart b k w' :=
  ⟨h.1, Nat.lt_of_lt_of_le h.2.1 hb.size, fun p v t z hp => h.2.2 p v t z (by rw [← hb.block b hlt]; exact hp)⟩

theorem heap_keep {w w' : World} (hb : Below w.heap.size w w') {k : Nat} {o : Obj} (h : w.heap[k]? = some o) : w'.heap[k]? = some o :=
  (hb.block k (Array.getElem?_eq_some_iff.1 h).1).trans h

theorem decodeGo_drop (s : ByteArray) (pos : Nat) (h : pos < s.size) : Lib.decodeGo (s.extract pos s.size) = decL (s.data.toList.drop pos) := by
  have hs : (s.extract pos s.size).size ≠ 0 := by simp; omega
  unfold Lib.decodeGo
  rw [if_neg hs, decode_drop]
  congr 1
  have : s.size - pos = (s.data.toList.drop pos).length := by simp
  simp only [List.drop_zero, ByteArray.data_extract, Array.toList_extract, List.extract_eq_take_drop]
  rw [this, List.take_length]

theorem u8_and15 (b : UInt8) : bits .and .u8 (b.toNat : Int) 15 = (b.toNat : Int) % 16 := by
  have h : ∀ n : Nat, n < 256 → bits .and .u8 (n : Int) 15 = (n : Int) % 16 := by decide +kernel
  exact h _ b.toNat_lt

theorem hex_at (n : Nat) (h : n < 16) : (⟨#[48, 49, 50, 51, 52, 53, 54, 55, 56, 57, 97, 98, 99, 100, 101, 102]⟩ : ByteArray).extract n (n + 1) = ⟨#[hexD n]⟩ := by
  have : n = 0 ∨ n = 1 ∨ n = 2 ∨ n = 3 ∨ n = 4 ∨ n = 5 ∨ n = 6 ∨ n = 7 ∨ n = 8 ∨ n = 9 ∨ n = 10 ∨ n = 11 ∨ n = 12 ∨ n = 13 ∨ n = 14 ∨ n = 15 := by omega
  rcases this with rfl | rfl | rfl | rfl | rfl | rfl | rfl | rfl | rfl | rfl | rfl | rfl | rfl | rfl | rfl | rfl <;> rfl

theorem pct_str (b : UInt8) : (⟨#[37]⟩ : ByteArray) ++ (⟨#[48, 49, 50, 51, 52, 53, 54, 55, 56, 57, 97, 98, 99, 100, 101, 102]⟩ : ByteArray).extract (b.toNat / 16) (b.toNat / 16 + 1) ++
    (⟨#[48, 49, 50, 51, 52, 53, 54, 55, 56, 57, 97, 98, 99, 100, 101, 102]⟩ : ByteArray).extract (b.toNat % 16) (b.toNat % 16 + 1) = ⟨(pct b).toArray⟩ := by
  have := b.toNat_lt
  rw [hex_at _ (by omega), hex_at _ (by omega)]
  rfl

theorem take_flat (M : List UInt8) (k : Nat) (b : UInt8) (hk : k < M.length) (hb : (⟨M.toArray⟩ : ByteArray).data.toList.getD k 0 = b) : (M.take (k + 1)).flatMap pct = (M.take k).flatMap pct ++ pct b := by
  have : M[k]? = some b := by
    simp only [List.getD_eq_getElem?_getD] at hb
    rw [List.getElem?_eq_getElem hk] at hb ⊢
    simpa using hb
  rw [List.take_add_one, this]
  simp

theorem conv_bytes (ss : ByteArray) (n : Nat) (hn : ss.size = n) (W : World) : ∃ (w4 : World) (cap : Nat), (convert 9 71 (.string ss)).run Tryz.prog W = .ok (.slice (some ⟨W.heap.size, 0, none⟩) n cap) w4 ∧
    Below W.heap.size W w4 ∧ w4.heap.size = W.heap.size + 1 ∧ ∀ j, j < n → w4.cell? ⟨W.heap.size, j, none⟩ = some (.int .u8 (ss.data.toList.getD j 0).toNat) := by
  subst hn
  exact ⟨_, _, Lib.run_convert_string_bytes (P := Tryz.prog) W 9 71 5 ss Tryz.underlying9 Tryz.underlying71 Tryz.underlying5,
    ⟨rfl, rfl, rfl, by rw [Lib.bytesWorld_size]; omega, fun k hk => Lib.bytesWorld_at_old W _ _ k hk⟩, Lib.bytesWorld_size _ _ _, fun j hj => Lib.bytesWorld_cell W _ ss j hj⟩

set_option maxHeartbeats 4000000 in
set_option maxRecDepth 1000000 in
theorem scr_Quote (s : ByteArray) (w : World) (hs : s.size ≤ 1099511627776) (hT : Lib.Utf8Tabs 1 2 w) :
    Calls Tryz.prog 15 #[.string s] w fun e w' => e = .returned (.string ⟨(quoteL s.data.toList).toArray⟩) ∧ Below w.heap.size w w' := by
  go_enter Tryz.func15, Tryz.ntmps15
  go_wp2_with (go_at_call 31; refine (bld_WriteByte w.heap.size w.heap.size [] 34 _ (Lib.IsBuilderF.of (Lib.fresh_isBuilder 78 5 w)) (by simp) (by simp)).mono ?_)
  rintro e w1 ⟨rfl, h1, b1, k1, a1⟩
  have bw1 : Below w.heap.size w w1 := ((Below.refl _ _).alloc (Nat.le_refl _) _).trans b1
  have hsz1 := bw1.size
  have hB1 : w.heap.size < w1.heap.size := by
    obtain ⟨_, v, hb, _⟩ := h1
    exact (Array.getElem?_eq_some_iff.1 hb).1
  go_wp2_with fail
  go_loopw [] (fun wr => ∃ (pos : Nat) (acc : List UInt8), Lib.IsBuilderF 78 5 w.heap.size w.heap.size (Lib.byteCells acc) wr ∧ wr.heap[w1.heap.size]? = some (.stringIter s pos) ∧ Below w.heap.size w wr ∧ acc ++ qrest (s.data.toList.drop pos) = 34 :: qrest s.data.toList) (fun wr => s.size - wr.iterPos w1.heap.size)
  case atStart =>
    refine ⟨0, [34], (bld_keep (.inr h1) ((Below.refl _ _).alloc (Nat.le_refl _) _)), World.iter_heap w1 s 0, below_iter bw1 hsz1 s 0, rfl⟩
  case round =>
    obtain ⟨pos, acc, hI, hit, hbw, hacc⟩ := hrel
    have hszr := hbw.size
    have hlen : acc.length ≤ 3 * s.size + 1 := by
      have h1 := congrArg List.length hacc
      have h2 := qrest_length s.data.toList
      have h3 : s.data.toList.length = s.size := by simp
      simp only [List.length_append, List.length_cons] at h1
      omega
    have Hacc := Lib.hid hacc
    clear hacc
    by_cases hp : pos < s.size
    · have hne : s.data.toList.drop pos ≠ [] := by
        intro h0
        have := congrArg List.length h0
        simp at this
        omega
      have hd0 := decode_drop s pos
      have hdg := decodeGo_drop s pos hp
      have hd1 := dec_pos (s.data.toList.drop pos)
      have hd2 := dec_le _ hne
      have hd3 := dec_valid (s.data.toList.drop pos)
      have hstep := qrest_step _ hne
      have hpl := piece_length _ hne
      have hraw : raw (s.data.toList.drop pos) = (plainB (decL (s.data.toList.drop pos)).1 && !((decL (s.data.toList.drop pos)).1 == 65533 && (decL (s.data.toList.drop pos)).2 == 1)) := rfl
      have henc := dec_enc _ hne
      have hT2 : ∀ W, Below w.heap.size w W → Calls Tryz.prog 32 #[.string (s.extract pos s.size)] W fun e w' => e = .returned (.tuple #[.int .i32 (decL (s.data.toList.drop pos)).1, .int .i64 (decL (s.data.toList.drop pos)).2]) ∧ Below W.heap.size W w' := fun W hW => by
        rw [← hdg]
        exact Tryz.utf8_DecodeRuneInString _ W (Utf8Tabs_below hT hW)
      have hdrop : s.data.toList.drop (pos + (decL (s.data.toList.drop pos)).2) = (s.data.toList.drop pos).drop (decL (s.data.toList.drop pos)).2 := by rw [List.drop_drop]
      have hdl : (s.data.toList.drop pos).length = s.size - pos := by simp
      have hnx0 : ∀ ty, (Instr.next (.pointer (some ⟨w1.heap.size, 0, none⟩)) true ty).run Tryz.prog wr = .ok (.tuple #[.bool true, .int .i64 pos, .int .i32 (decL (s.data.toList.drop pos)).1]) (wr.iterAt w1.heap.size s (pos + (decL (s.data.toList.drop pos)).2)) := fun ty => by
        rw [← hd0]
        exact Lib.run_next_any_at wr w1.heap.size s pos ty hit hp
      have hex : s.extract pos (pos + (decL (s.data.toList.drop pos)).2) = ⟨((s.data.toList.drop pos).take (decL (s.data.toList.drop pos)).2).toArray⟩ := by
        rw [ByteArray.ext_iff]
        simp only [ByteArray.data_extract]
        rw [← Array.toList_inj]
        simp only [Array.toList_extract, List.extract_eq_take_drop]
        congr 1
        omega
      clear hd0 hdg
      generalize hL : s.data.toList.drop pos = L at *
      generalize hdd : decL L = d at *
      obtain ⟨c, n⟩ := d
      simp only at *
      have hI2 := hI.iterAt hit (pos + n)
      have hit2 := Lib.iterAt_heap wr w1.heap.size s pos (pos + n) hit
      have hbw2 := Lib.below_iterAt hbw (k := w1.heap.size) (by omega) s (pos + n)
      have hszI : w1.heap.size < wr.heap.size := (Array.getElem?_eq_some_iff.1 hit).1
      have HL := Lib.hid hL
      have Hdd := Lib.hid hdd
      have Hex := Lib.hid hex
      have Hstep := Lib.hid hstep
      have Henc := Lib.hid henc
      have Hdrop := Lib.hid hdrop
      have Hraw := Lib.hid hraw
      clear hL hdd hex hstep henc hdrop hraw
      go_wp2_with (go_at_call 32; refine (hT2 _ hbw2).mono ?_)
      rintro e w2 ⟨rfl, b2⟩
      go_wp2_with (go_at_call 33; refine (scr_plain (c : Int) _ (by omega) (by omega) hd3.1).mono ?_)
      rintro e w3 ⟨rfl, b3⟩
      by_cases hpl2 : plainB (c : Int) = true
      · by_cases hb : c = 65533 ∧ n = 1
        · obtain ⟨hc, hn⟩ := hb
          have hr : raw L = false := by rw [Hraw.out, hc, hn]; simp
          have hcF : ((c : Int) != 65533) = false := by rw [hc]; decide
          have hn1 : ¬ ((1 : Int) < n) := by omega
          clear hc hn
          have hb3 := b2.trans (b3.mono b2.size)
          have hI3 := bld_keep hI2 hb3
          have hit3 := heap_keep hb3 hit2
          have hszz := hb3.size
          have hsn : (s.extract pos (pos + n)).size = n := by simp; omega
          obtain ⟨w4, cap, hcv, b4, hs4, hc4⟩ := conv_bytes (s.extract pos (pos + n)) n hsn w3
          rw [Hex.out] at hc4
          have hI4 := bld_keep hI3 b4
          have hit4 := heap_keep b4 hit3
          rw [Lib.iterAt_size] at hszz
          have hbw4 : Below w.heap.size w w4 := (hbw2.trans (hb3.mono (by rw [Lib.iterAt_size]; omega))).trans (b4.mono (by omega))
          have hap : Apart w.heap.size w3.heap.size w4 := ⟨by omega, by omega, fun p v t z hp => by
            have hb : Lib.IsBuilderF 78 5 w.heap.size w.heap.size (Lib.byteCells acc) w3 := hI3
            rw [b4.block _ (by omega)] at hp
            rcases hb with ⟨_, v', hv', hown, _⟩ | ⟨_, v', hv', hown, _⟩
            all_goals
              rw [hv'] at hp
              have e1 := Option.some.inj hp
              injection e1 with e1
              have e2 : v = v' := by
                have := congrArg (fun x : Array Value => x[1]?) e1
                simpa using this.symm
              subst e2
              intro he
              rcases hown.2 with ⟨hv, _⟩ | ⟨g, _, _, _, hv, _, hg, _⟩
              · subst hv; simp [Value.ownBlock] at he
              · subst hv
                simp [Value.ownBlock] at he
                subst he
                have := (Array.getElem?_eq_some_iff.1 hg).1
                omega⟩
          go_wp2_with fail
          go_loopw [44] (fun i wi => ∃ k : Nat, k ≤ n ∧ i = .int .i64 k ∧ Lib.IsBuilderF 78 5 w.heap.size w.heap.size (Lib.byteCells (acc ++ ((L.take n).take k).flatMap pct)) wi ∧ wi.heap[w3.heap.size]? = w4.heap[w3.heap.size]? ∧ Apart w.heap.size w3.heap.size wi ∧ wi.heap[w1.heap.size]? = some (.stringIter s (pos + n)) ∧ Below w.heap.size w wi) (fun i _ => n - (intOf i).toNat)
          case atStart => exact ⟨0, by omega, rfl, by simpa using hI4, rfl, hap, hit4, hbw4⟩
          case round =>
            obtain ⟨k, hk, rfl, hIk, hck, hapk, hitk, hbwk⟩ := hrel
            by_cases hlt : k < n
            · have hcell : wr.cell? ⟨w3.heap.size, k, none⟩ = some (.int .u8 (((⟨(L.take n).toArray⟩ : ByteArray).data.toList.getD k 0).toNat)) := by
                rw [← hc4 k hlt]
                exact World.cell?_of_block (a := ⟨w3.heap.size, k, none⟩) hck
              generalize hbv : (⟨(L.take n).toArray⟩ : ByteArray).data.toList.getD k 0 = bv at *
              have hbl := bv.toNat_lt
              have HBV := Lib.hid hbv
              clear hbv
              go_wp2_with fail
              have hq : bv.toNat / 16 < 16 := by omega
              have hr16 : bv.toNat % 16 < 16 := by omega
              have hw1 : IntKind.u8.wrap ((bv.toNat : Int) / 16 + 1) = (bv.toNat : Int) / 16 + 1 := IntWalk.u8_in _ (by omega)
              have hw2 : bits .and .u8 (bv.toNat : Int) 15 = (bv.toNat : Int) % 16 := u8_and15 bv
              have hw3 : IntKind.u8.wrap ((bv.toNat : Int) % 16 + 1) = (bv.toNat : Int) % 16 + 1 := IntWalk.u8_in _ (by omega)
              have hb0 : 0 ≤ (bv.toNat : Int) / 16 := by omega
              have hb1 : (bv.toNat : Int) / 16 + 1 ≤ 16 := by omega
              have hb2 : 0 ≤ (bv.toNat : Int) % 16 := by omega
              have hb4 : (bv.toNat : Int) % 16 + 1 ≤ 16 := by omega
              have hpct := pct_str bv
              have hszk := hbwk.size
              have hlk : (((L.take n).take k).flatMap pct).length ≤ 3 * s.size := by
                rw [flat_pct_length]
                have := List.length_take_le k (L.take n)
                have := List.length_take_le n L
                have : ((L.take n).take k).length ≤ L.length := by rw [List.length_take, List.length_take]; omega
                omega
              have hWS := bld_WriteString w.heap.size w.heap.size _ ⟨(pct bv).toArray⟩ wr.drew (show Lib.IsBuilderF 78 5 w.heap.size w.heap.size (Lib.byteCells (acc ++ ((L.take n).take k).flatMap pct)) wr.drew from hIk) (by
                rw [Lib.byteCells_length, List.length_append]
                show _ + 3 ≤ _
                omega) hszk
              go_region_with (go_at_call 35; refine hWS.mono ?_; rintro e w5 ⟨rfl, h5, b5, k5, a5⟩)
              go_wp2
              all_goals
                refine ⟨⟨k + 1, by omega, by go_num, ?_, (a5 _ hapk).1.trans hck, (a5 _ hapk).2, k5.iter hitk (by omega), (below_drew hbwk).trans b5⟩, by simp [intOf]; omega⟩
                rw [take_flat (L.take n) k bv (by rw [List.length_take]; omega) HBV.out, ← List.append_assoc, Lib.byteCells_append]
                exact Or.inr h5
            · have hkn : (L.take n).take k = L.take n := by rw [show k = n from by omega, List.take_take, Nat.min_self]
              rw [hkn] at hIk
              clear hkn
              go_wp2
              refine ⟨⟨pos + n, acc ++ (L.take n).flatMap pct, hIk, hitk, hbwk, ?_⟩, ?_⟩
              · rw [Hdrop.out, ← Hacc.out, Hstep.out, List.append_assoc]
                unfold piece
                rw [if_neg (by rw [hr]; decide), Hdd.out]
              · simp only [World.iterPos, hitk, hit]
                omega
        · have hct : ((c : Int) != 65533) = true ∨ (((c : Int) != 65533) = false ∧ (1 : Int) < n) := by
            by_cases h : c = 65533
            · right; subst h; exact ⟨by decide, by omega⟩
            · left; simp; omega
          have hr : raw L = true := by rw [Hraw.out, hpl2]; simp; omega
          have He := Henc.out hb
          have HE := Lib.hid He
          clear He
          have hb3 := b2.trans (b3.mono b2.size)
          have hI3 := bld_keep hI2 hb3
          have hit3 := heap_keep hb3 hit2
          have hszz := hb3.size
          rcases hct with hct | ⟨hct, hn1⟩
          all_goals
            go_wp2_with (go_at_call 34; refine (bld_WriteRune w.heap.size w.heap.size _ _ (by omega) (by omega) _ hI3 (by rw [Lib.byteCells_length]; omega) (by rw [Lib.iterAt_size] at hszz; omega)).mono ?_)
            rintro e w4 ⟨rfl, h4, b4, k4⟩
            go_wp2
            go_roundw
            case rel =>
              refine ⟨pos + n, acc ++ Lib.encodeRune (c : Int), ?_, k4.iter hit3 (by omega), (hbw2.trans (hb3.mono (by rw [Lib.iterAt_size]; omega))).trans b4, ?_⟩
              · rw [Lib.byteCells_append, Lib.byteCells_encodeRune]; exact Or.inr h4
              · rw [Hdrop.out, ← Hacc.out, Hstep.out, HE.out, List.append_assoc]
                unfold piece
                rw [if_pos hr, Hdd.out]
            case measure =>
              simp only [World.iterPos, k4.iter hit3 (by omega), hit]
              omega
      · have hpf : plainB (c : Int) = false := by simpa using hpl2
        clear hpl2
        have hr : raw L = false := by rw [Hraw.out, hpf]; rfl
        have hb3 := b2.trans (b3.mono b2.size)
        have hI3 := bld_keep hI2 hb3
        have hit3 := heap_keep hb3 hit2
        have hszz := hb3.size
        have hsn : (s.extract pos (pos + n)).size = n := by simp; omega
        obtain ⟨w4, cap, hcv, b4, hs4, hc4⟩ := conv_bytes (s.extract pos (pos + n)) n hsn w3
        rw [Hex.out] at hc4
        have hI4 := bld_keep hI3 b4
        have hit4 := heap_keep b4 hit3
        rw [Lib.iterAt_size] at hszz
        have hbw4 : Below w.heap.size w w4 := (hbw2.trans (hb3.mono (by rw [Lib.iterAt_size]; omega))).trans (b4.mono (by omega))
        have hap : Apart w.heap.size w3.heap.size w4 := ⟨by omega, by omega, fun p v t z hp => by
          have hb : Lib.IsBuilderF 78 5 w.heap.size w.heap.size (Lib.byteCells acc) w3 := hI3
          rw [b4.block _ (by omega)] at hp
          rcases hb with ⟨_, v', hv', hown, _⟩ | ⟨_, v', hv', hown, _⟩
          all_goals
            rw [hv'] at hp
            have e1 := Option.some.inj hp
            injection e1 with e1
            have e2 : v = v' := by
              have := congrArg (fun x : Array Value => x[1]?) e1
              simpa using this.symm
            subst e2
            intro he
            rcases hown.2 with ⟨hv, _⟩ | ⟨g, _, _, _, hv, _, hg, _⟩
            · subst hv; simp [Value.ownBlock] at he
            · subst hv
              simp [Value.ownBlock] at he
              subst he
              have := (Array.getElem?_eq_some_iff.1 hg).1
              omega⟩
        go_wp2_with fail
        go_loopw [44] (fun i wi => ∃ k : Nat, k ≤ n ∧ i = .int .i64 k ∧ Lib.IsBuilderF 78 5 w.heap.size w.heap.size (Lib.byteCells (acc ++ ((L.take n).take k).flatMap pct)) wi ∧ wi.heap[w3.heap.size]? = w4.heap[w3.heap.size]? ∧ Apart w.heap.size w3.heap.size wi ∧ wi.heap[w1.heap.size]? = some (.stringIter s (pos + n)) ∧ Below w.heap.size w wi) (fun i _ => n - (intOf i).toNat)
        case atStart => exact ⟨0, by omega, rfl, by simpa using hI4, rfl, hap, hit4, hbw4⟩
        case round =>
          obtain ⟨k, hk, rfl, hIk, hck, hapk, hitk, hbwk⟩ := hrel
          by_cases hlt : k < n
          · have hcell : wr.cell? ⟨w3.heap.size, k, none⟩ = some (.int .u8 (((⟨(L.take n).toArray⟩ : ByteArray).data.toList.getD k 0).toNat)) := by
              rw [← hc4 k hlt]
              exact World.cell?_of_block (a := ⟨w3.heap.size, k, none⟩) hck
            generalize hbv : (⟨(L.take n).toArray⟩ : ByteArray).data.toList.getD k 0 = bv at *
            have hbl := bv.toNat_lt
            have HBV := Lib.hid hbv
            clear hbv
            go_wp2_with fail
            have hq : bv.toNat / 16 < 16 := by omega
            have hr16 : bv.toNat % 16 < 16 := by omega
            have hw1 : IntKind.u8.wrap ((bv.toNat : Int) / 16 + 1) = (bv.toNat : Int) / 16 + 1 := IntWalk.u8_in _ (by omega)
            have hw2 : bits .and .u8 (bv.toNat : Int) 15 = (bv.toNat : Int) % 16 := u8_and15 bv
            have hw3 : IntKind.u8.wrap ((bv.toNat : Int) % 16 + 1) = (bv.toNat : Int) % 16 + 1 := IntWalk.u8_in _ (by omega)
            have hb0 : 0 ≤ (bv.toNat : Int) / 16 := by omega
            have hb1 : (bv.toNat : Int) / 16 + 1 ≤ 16 := by omega
            have hb2 : 0 ≤ (bv.toNat : Int) % 16 := by omega
            have hb4 : (bv.toNat : Int) % 16 + 1 ≤ 16 := by omega
            have hpct := pct_str bv
            have hszk := hbwk.size
            have hlk : (((L.take n).take k).flatMap pct).length ≤ 3 * s.size := by
              rw [flat_pct_length]
              have := List.length_take_le k (L.take n)
              have := List.length_take_le n L
              have : ((L.take n).take k).length ≤ L.length := by rw [List.length_take, List.length_take]; omega
              omega
            have hWS := bld_WriteString w.heap.size w.heap.size _ ⟨(pct bv).toArray⟩ wr.drew (show Lib.IsBuilderF 78 5 w.heap.size w.heap.size (Lib.byteCells (acc ++ ((L.take n).take k).flatMap pct)) wr.drew from hIk) (by
              rw [Lib.byteCells_length, List.length_append]
              show _ + 3 ≤ _
              omega) hszk
            go_region_with (go_at_call 35; refine hWS.mono ?_; rintro e w5 ⟨rfl, h5, b5, k5, a5⟩)
            go_wp2
            all_goals
              refine ⟨⟨k + 1, by omega, by go_num, ?_, (a5 _ hapk).1.trans hck, (a5 _ hapk).2, k5.iter hitk (by omega), (below_drew hbwk).trans b5⟩, by simp [intOf]; omega⟩
              rw [take_flat (L.take n) k bv (by rw [List.length_take]; omega) HBV.out, ← List.append_assoc, Lib.byteCells_append]
              exact Or.inr h5
          · have hkn : (L.take n).take k = L.take n := by rw [show k = n from by omega, List.take_take, Nat.min_self]
            rw [hkn] at hIk
            clear hkn
            go_wp2
            refine ⟨⟨pos + n, acc ++ (L.take n).flatMap pct, hIk, hitk, hbwk, ?_⟩, ?_⟩
            · rw [Hdrop.out, ← Hacc.out, Hstep.out, List.append_assoc]
              unfold piece
              rw [if_neg (by rw [hr]; decide), Hdd.out]
            · simp only [World.iterPos, hitk, hit]
              omega
    · have hnx0 : ∀ ty, (Instr.next (.pointer (some ⟨w1.heap.size, 0, none⟩)) true ty).run Tryz.prog wr = _ := fun ty => Lib.run_next_end_at wr w1.heap.size s pos ty hit hp
      have hd : s.data.toList.drop pos = [] := List.drop_eq_nil_of_le (by simp; omega)
      have hacc2 : acc = 34 :: qrest s.data.toList := by rw [← Hacc.out, hd, qrest_nil, List.append_nil]
      have HA := Lib.hid hacc2
      clear hacc2 hd
      go_wp2_with (go_at_call 31; refine (bld_WriteByte w.heap.size w.heap.size _ 34 _ hI (by rw [Lib.byteCells_length]; omega) hszr).mono ?_)
      rintro e w2 ⟨rfl, h2, b2, k2, a2⟩
      go_wp2_with (go_at_call 36; refine (Tryz.Builder_String_any_k w.heap.size w.heap.size (acc ++ [34]) _ (.inr (by rw [Lib.byteCells_append]; exact h2)) (by have := b2.size; omega)).mono ?_)
      rintro e w3 ⟨rfl, _, b3, _⟩
      go_wp2
      go_ret
      refine ⟨?_, (hbw.trans b2).trans b3⟩
      rw [HA.out]
      rfl

end Go.Proofs.YtkgkhcfonlhphaaGreatDoor
