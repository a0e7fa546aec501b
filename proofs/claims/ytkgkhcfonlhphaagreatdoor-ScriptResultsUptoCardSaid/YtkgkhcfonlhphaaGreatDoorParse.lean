/- The contract of script.Parse at a shown operation's line, and at a line of one word that is no kind's name. -/
import Derived.Test.YtkgkhcfonlhphaaGreatDoorParseR
import Derived.BigQuiet
import Derived.Laws.ResultCell
namespace Go.Proofs.YtkgkhcfonlhphaaGreatDoor
open Go.RowKit

def kindCells (k : Int) : Array Value := #[.int .i64 k, .int .i64 0, .int .i64 0, .int .i64 0, .string ⟨#[]⟩, .string ⟨#[]⟩, .string ⟨#[]⟩, .int .i64 0, .int .i64 0, .int .i64 0, .slice none 0 0]
theorem kind_part (o : OpV) : kindCells o.kind = partCells o 0 (.slice none 0 0) := by simp [kindCells, partCells]
theorem op_zero : (Tryz.prog.info? 36).map (fun i => (i.zero, i.size)) = some (some (.agg (kindCells 0)), 11) := by kernel_rfl

def kindNow (w : World) (p : Nat) : Nat := match w.cell? ⟨p, 0, none⟩ with | some (.int _ n) => n.toNat | _ => 0

theorem kind_now {w : World} {p k : Nat} (h : OpAt w p (kindCells k)) : kindNow w p = k := by
  unfold kindNow
  rw [(h.cell (j := 0) (v := .int .i64 (k : Int)) rfl).1]
  simp

def ParsePost (o : OpV) (w : World) (e : Ending) (w' : World) : Prop :=
  Below w.heap.size w w' ∧ ((o.kind = 17 ∧ e = .returned (.tuple #[.agg (kindCells 0), .int .i64 13])) ∨ (o.kind < 17 ∧ ∃ A c, e = .returned (.tuple #[.agg (o.cells A c), .int .i64 0]) ∧ KeepAt w' o A c ∧ ∀ a, A = some a → w.heap.size ≤ a.block))

/-- all words are taken: the operation lies there -/
theorem parse_done (o : OpV) (wA wr : World) (hR : PRel o wA (tailW o).length wr) : ∃ A c, OpAt wr wA.heap.size (o.cells A c) ∧ (∀ W : World, (∀ q : Addr, wA.heap.size < q.block → q.block < wr.heap.size → W.cell? q = wr.cell? q) → wr.heap.size ≤ W.heap.size → KeepAt W o A c) ∧ Below wA.heap.size wA wr ∧ ∀ a, A = some a → wA.heap.size < a.block := by
  obtain ⟨hb, k, m, kv, hk, hm, hj, hmk, hO, hW⟩ := hR
  rw [tail_length] at hj
  have hle := fLen_mono o k (9 - k)
  rw [show k + (9 - k) = 9 by omega] at hle
  have h9 : m = o.keep.length ∧ fLen o k = fLen o 9 := by
    rcases Nat.eq_zero_or_pos m with h | h
    · omega
    · have := hmk h
      subst this
      omega
  obtain ⟨rfl, hfl⟩ := h9
  rw [part_rest o kv (9 - k) k (by omega) hfl] at hO
  rw [List.take_of_length_le (Nat.le_refl _)] at hW
  have hl : (o.keep.map (·.data.toList)).length = o.keep.length := by simp
  obtain ⟨A, c, hkv, hc⟩ : ∃ A c, kv = .slice A o.keep.length c ∧ o.keep.length ≤ c := by
    rcases hW.2 with ⟨hv, h0⟩ | ⟨g, cap, cur, hv, _, _, hc, _⟩
    · exact ⟨none, 0, by rw [hv, ← hl, h0], by omega⟩
    · exact ⟨_, cap, by rw [hv, hl], by omega⟩
  subst hkv
  unfold WordsAt at hW
  rw [hl, List.map_map, show (strV ∘ fun (x : ByteArray) => x.data.toList) = Value.string from funext fun x => by simp [strV]] at hW
  have hR := Reads.of_own hW
  refine ⟨A, c, hO, fun W hcell hsz => ⟨hc, hR.1, fun h0 => ?_⟩, hb, fun a ha => ?_⟩
  rotate_left
  · rcases hW.2 with ⟨hv, _⟩ | ⟨g, cap, cur, hv, hb', _⟩
    · injection hv with h1
      rw [ha] at h1
      cases h1
    · cases hv
      cases ha
      exact hb'
  obtain ⟨b, f, rfl, hbl, hj⟩ := hR.2 h0
  refine ⟨b, f, rfl, by omega, fun j u hu => ?_⟩
  rw [hcell ⟨b, f + j, none⟩ ?_ hbl]
  · exact hj j u hu
  · rcases hW.2 with ⟨hv, _⟩ | ⟨g, cap, cur, hv, hb', _⟩
    · cases hv
    · cases hv
      exact hb'

theorem below_setRow {B : Nat} {a w : World} (h : Below B a w) {g : Nat} (hg : B ≤ g) (cs : Array Value) : Below B a (w.setRow g cs) :=
  ⟨h.os, h.tape, h.output, by rw [setRow_size]; exact h.size, fun k hk => (setRow_other w g k cs (by omega)).trans (h.block k hk)⟩

theorem results_cell_tmp_row {fn : Func} {p u : Tmp} {ty : TypeId} (h : fn.results = #[.cell p ty, .tmp u]) (tmps : Array Value) (w : World) (g : Nat) (cs : Array Value) (x : Value)
    (hp : tmps.getD p undef = .pointer (some ⟨g, 0, none⟩)) (hx : tmps.getD u undef = x) (hl : (loadVar ty ⟨g, 0, none⟩).run Tryz.prog w = .ok (.agg cs) w) :
    (results fn tmps).run Tryz.prog w = .ok (.tuple #[.agg cs, x]) w := by
  have hp' : tmps[p]?.getD undef = .pointer (some ⟨g, 0, none⟩) := by simpa using hp
  rw [results_cell_tmp h, hx]
  simp [hp', asAddr, Result.andThen, hl]

theorem op_info : (Tryz.prog.info? 36).map (·.size) = some 11 := by kernel_rfl

set_option maxHeartbeats 1000000 in
set_option maxRecDepth 100000 in
theorem scr_Parse (o : OpV) (ho : o.ok) (s : ByteArray) (hs : s.size ≤ 1000000) (nm : List UInt8) (hp : parts false [] s.data.toList = nm :: tailW o) (hk0 : 0 ≤ o.kind) (hk17 : o.kind ≤ 17)
    (hnm : ∀ j : Nat, (j : Int) < o.kind → ((nameB j).toList == (⟨nm.toArray⟩ : ByteArray).toList) = false) (heq : o.kind < 17 → ((nameB o.kind).toList == (⟨nm.toArray⟩ : ByteArray).toList) = true)
    (hsh : o.kind < 17 → s = ⟨(showL o).toArray⟩) (w : World) (hT : Tabs3 w) :
    Calls Tryz.prog 13 #[.string s] w (ParsePost o w) := by
  have hwA := scr_words s
  obtain ⟨K, hK⟩ : ∃ K : Nat, o.kind = K := ⟨o.kind.toNat, by omega⟩
  have hK17 : K ≤ 17 := by omega
  rw [hp] at hwA
  have Hwords := Lib.hid hwA
  have Hnm := Lib.hid (show ∀ j : Nat, j < K → ((nameB j).toList == (⟨nm.toArray⟩ : ByteArray).toList) = false from fun j hj => hnm j (by omega))
  have Heq := Lib.hid (show K < 17 → ((nameB K).toList == (⟨nm.toArray⟩ : ByteArray).toList) = true from fun h => by rw [← hK]; exact heq (by omega))
  have Hsh := Lib.hid hsh
  have HT := Lib.hid hT
  have HK := Lib.hid hK
  clear hwA hp hnm heq hsh hT hK hk0 hk17
  obtain ⟨nmB, hnmB⟩ : ∃ b : ByteArray, (⟨nm.toArray⟩ : ByteArray) = b := ⟨_, rfl⟩
  rw [hnmB] at Hnm Heq
  have HnmB := Lib.hid hnmB
  clear hnmB
  go_enter Tryz.func13, Tryz.ntmps13
  go_wp2_with (go_at_call 27; refine (Hwords.out _ (by omega)).mono ?_)
  rintro e w1 ⟨⟨v, rfl, hW⟩, hb1⟩
  obtain ⟨gl, cap, rfl, hgl, hcap, hcells⟩ := words_form hW (by simp)
  clear hW
  obtain ⟨n, hn⟩ : ∃ n, (tailW o).length = n := ⟨_, rfl⟩
  rw [List.length_cons, hn] at hcap
  rw [List.length_cons, hn]
  have hn80 : n ≤ 80 := by
    have h1 := tail_length o
    have h2 := fLen_le o 9
    have h3 := ho.keepN
    omega
  have Hn := Lib.hid hn
  clear hn
  have hl0 : w1.cell? ⟨gl, 0, none⟩ = some (.string nmB) := by
    have := hcells 0 ⟨nm.toArray⟩ rfl
    rw [HnmB.out] at this
    exact this
  have Hcells := Lib.hid hcells
  clear hcells
  have HT1 := Lib.hid (HT.out.below (((Below.refl w.heap.size w).alloc (Nat.le_refl _) _).trans (hb1.mono (by simp))))
  have Hb1 := Lib.hid hb1
  clear hb1
  go_upto_block 0 with (fail)
  go_cut [] (fun wc => OpAt wc w1.heap.size (kindCells K) ∧ Below w1.heap.size w1 wc)
  case first =>
    go_wp2_with fail
    go_loopw [] (fun wr => ∃ k : Nat, k ≤ K ∧ OpAt wr w1.heap.size (kindCells k) ∧ Below w1.heap.size w1 wr) (fun wr => K - kindNow wr w1.heap.size)
    case atStart => exact ⟨0, by omega, heap_alloc_new _ _, (Below.refl _ _).alloc (Nat.le_refl _) _⟩
    case round =>
      obtain ⟨k, hk, hO, hb⟩ := hrel
      have hcur : kindNow wr w1.heap.size = k := kind_now hO
      have c0 := (hO.cell (j := 0) (v := .int .i64 (k : Int)) rfl).1
      have f0 := (hO.cell (j := 0) (v := .int .i64 (k : Int)) rfl).2
      have cl : wr.cell? ⟨gl, 0, none⟩ = some (.string nmB) := by rw [hb.cell (p := ⟨gl, 0, none⟩) hgl]; exact hl0
      have hN := (HT1.out.below hb).tabs2.names
      have hpw : w1.heap.size < wr.heap.size := (Array.getElem?_eq_some_iff.1 hO).1
      have HB := Lib.hid (And.intro hO hb)
      have HC := Lib.hid hcur
      clear hO hb hcur hl0
      have hname : ∀ n, Calls Tryz.prog 24 #[.int .i64 (k : Int)] (wr.drewN n) fun e w' => e = .returned (.string (nameB (k : Int))) ∧ w' = wr.drewN n :=
        fun n => (op_Name (k : Int) ⟨by omega, by omega⟩ (wr.drewN n) (fun j s h => hN j s h)).mono fun e w' h => ⟨h.1, h.2.symm⟩
      have Hname := Lib.hid hname
      clear hname hN
      by_cases hlt : k < K
      · have hnb := Hnm.out k hlt
        have hd : decide ((k : Int) < 17) = true := by simp; omega
        generalize nameB (k : Int) = nb at *
        go_wp2_with fail
        go_quiet ((go_at_call 24; exact Calls.quiet_of_same (Hname.out _)))
        go_wp2_with fail
        have hO2 : OpAt ((wr.drewN nq).setCell ⟨w1.heap.size, 0, none⟩ (.int .i64 ((k : Int) + 1))) w1.heap.size (kindCells ((k + 1 : Nat) : Int)) := OpAt.set (w := wr.drewN nq) HB.out.1 0 _
        refine ⟨⟨k + 1, by omega, hO2, (below_drewN HB.out.2 nq).setCell (Nat.le_refl _) _⟩, ?_⟩
        rw [kind_now hO2, HC.out]
        omega
      · have hkK : k = K := by omega
        by_cases h17 : K < 17
        · have hnb := Heq.out h17
          have hd : decide ((k : Int) < 17) = true := by simp; omega
          subst hkK
          generalize nameB (k : Int) = nb at *
          go_wp2_with fail
          go_quiet ((go_at_call 24; exact Calls.quiet_of_same (Hname.out _)))
          go_wp2_with fail
          go_meet
          exact ⟨HB.out.1, below_drewN HB.out.2 nq⟩
        · have hd : decide ((k : Int) < 17) = false := by simp; omega
          subst hkK
          go_wp2_with fail
          go_quiet (fail)
          go_wp2_with fail
          go_meet
          exact ⟨HB.out.1, below_drewN HB.out.2 nq⟩
  case rest =>
    obtain ⟨hO, hb⟩ := hcut
    have hR0 : PRel o w1 0 wc := ⟨hb, 0, 0, .slice none 0 0, Nat.zero_le _, Nat.zero_le _, rfl, fun h => absurd h (by omega), by rw [← kind_part o, HK.out]; exact hO, words_nil _ _⟩
    have HR0 := Lib.hid hR0
    clear hR0 hO hb
    go_upto_region 5 with (fail)
    go_cut [30, 31, 32] (fun sl ln i wc2 => ∃ f c, sl = .slice (some ⟨gl, f, none⟩) n c ∧ (0 < n → f = 1) ∧ n ≤ c ∧ ln = .int .i64 (n : Int) ∧ i = .int .i64 0 ∧ wc2 = wc)
    case first =>
      by_cases h1 : cap = 1
      · subst h1
        have hn0 : n = 0 := by omega
        subst hn0
        go_wp2_with fail
        go_meet
        exact ⟨_, _, rfl, fun h => absurd h (by omega), by omega, rfl, rfl, rfl⟩
      · go_wp2_with fail
        go_meet
        exact ⟨_, _, rfl, fun _ => rfl, by omega, rfl, rfl, rfl⟩
    case rest =>
      obtain ⟨f, c, rfl, hf, hnc, rfl, rfl, rfl⟩ := hcut
      go_wp2_with fail
      go_loopw [32] (fun i wr => ∃ j : Nat, j ≤ n ∧ i = .int .i64 (j : Int) ∧ PRel o w1 j wr) (fun i _ => n - (intOf i).toNat)
      case atStart => exact ⟨0, by omega, rfl, HR0.out⟩
      case round =>
        obtain ⟨j, hj, rfl, hR⟩ := hrel
        by_cases hlt : j < n
        · obtain ⟨wd, nmb, tb, hwd, hcutc, htk⟩ := parse_round o ho w1 HT1.out j (by rw [Hn.out]; exact hlt) wr hR
          have hb := hR.1
          have cl : wr.cell? ⟨gl, f + j, none⟩ = some (.string wd) := by
            rw [hf (by omega)]
            rw [hb.cell (p := ⟨gl, 1 + j, none⟩) hgl]
            have := Hcells.out (j + 1) wd (by
              rw [List.getElem?_map, List.getElem?_cons_succ, hwd]
              simp only [Option.map_some, bytes_eta'])
            rw [show 0 + (j + 1) = 1 + j by omega] at this
            exact this
          have HC := Lib.hid (hcutc wr hb)
          have Htk := Lib.hid htk
          clear hwd hcutc htk hb hR hl0
          go_wp2_with (go_at_call 28; refine HC.out.mono ?_)
          rintro e w2 ⟨rfl, hb2⟩
          go_wp2_with (go_at_call 29; refine (Htk.out _ hb2).mono ?_)
          rintro e w3 ⟨rfl, hR3⟩
          go_wp2_with fail
          exact ⟨⟨j + 1, by omega, by go_num, hR3⟩, by simp [intOf]; omega⟩
        · have hjn : j = n := by omega
          subst hjn
          obtain ⟨A, c', hO, hKp, hb, hfr⟩ := parse_done o w1 wr (by rw [Hn.out]; exact hR)
          have hRp : OpAt wr w.heap.size (kindCells 0) := by
            have h0 : OpAt (w.alloc (.cells (kindCells 0) 36)) w.heap.size (kindCells 0) := heap_alloc_new _ _
            exact (h0.below Hb1.out).below hb
          have hbw : Below w.heap.size w wr := ((Below.refl w.heap.size w).alloc (Nat.le_refl _) _).trans (Hb1.out.mono (by simp)) |>.trans (hb.mono (by have := Hb1.out.size; simp at this; omega))
          have hne : w.heap.size ≠ w1.heap.size := by have := Hb1.out.size; simp at this; omega
          obtain ⟨kind, level, session, snap, bucket, key, value, label, dst, nn, keep⟩ := o
          have hkind : kind = (K : Int) := HK.out
          subst hkind
          have e0 := (hO.cell (j := 0) rfl).1
          have e1 := (hO.cell (j := 1) rfl).1
          have e2 := (hO.cell (j := 2) rfl).1
          have e3 := (hO.cell (j := 3) rfl).1
          have e4 := (hO.cell (j := 4) rfl).1
          have e5 := (hO.cell (j := 5) rfl).1
          have e6 := (hO.cell (j := 6) rfl).1
          have e7 := (hO.cell (j := 7) rfl).1
          have e8 := (hO.cell (j := 8) rfl).1
          have e9 := (hO.cell (j := 9) rfl).1
          have e10 := (hO.cell (j := 10) rfl).1
          simp only [OpV.cells, List.getElem_toArray, List.getElem_cons_zero, List.getElem_cons_succ] at e0 e1 e2 e3 e4 e5 e6 e7 e8 e9 e10
          have HB := Lib.hid (And.intro hO (And.intro hKp (And.intro hb (And.intro hRp hbw))))
          clear hO hKp hb hRp hbw hR hl0
          by_cases h17 : K < 17
          · have hss : (s.toList == s.toList) = true := beq_self_eq_true _
            have hd : decide ((K : Int) = 17) = false := by simp; omega
            have hshow : Calls Tryz.prog 10 #[.agg (OpV.cells ⟨(K : Int), level, session, snap, bucket, key, value, label, dst, nn, keep⟩ A c')] wr fun e w' => e = .returned (.string s) ∧ Below wr.heap.size wr w' := by
              have h := scr_Show ⟨(K : Int), level, session, snap, bucket, key, value, label, dst, nn, keep⟩ ho A c' wr (HB.out.2.1 wr (fun _ _ _ => rfl) (Nat.le_refl _)) (HT1.out.below HB.out.2.2.1).tabs2
              rw [← Hsh.out (by show (K : Int) < 17; omega)] at h
              exact h
            have HS := Lib.hid hshow
            clear hshow
            go_wp2_with (go_at_call 10; refine HS.out.mono ?_)
            intro e w2 he hb2
            subst he
            have hO2 := HB.out.1.below hb2
            have hR2 := HB.out.2.2.2.1.below hb2
            have d0 := (hO2.cell (j := 0) rfl).1
            have d1 := (hO2.cell (j := 1) rfl).1
            have d2 := (hO2.cell (j := 2) rfl).1
            have d3 := (hO2.cell (j := 3) rfl).1
            have d4 := (hO2.cell (j := 4) rfl).1
            have d5 := (hO2.cell (j := 5) rfl).1
            have d6 := (hO2.cell (j := 6) rfl).1
            have d7 := (hO2.cell (j := 7) rfl).1
            have d8 := (hO2.cell (j := 8) rfl).1
            have d9 := (hO2.cell (j := 9) rfl).1
            have d10 := (hO2.cell (j := 10) rfl).1
            simp only [OpV.cells, List.getElem_toArray, List.getElem_cons_zero, List.getElem_cons_succ] at d0 d1 d2 d3 d4 d5 d6 d7 d8 d9 d10
            have HC := Lib.hid (And.intro hb2 (And.intro hO2 hR2))
            clear hb2 hO2 hR2 e0 e1 e2 e3 e4 e5 e6 e7 e8 e9 e10
            go_wp2_with (refine wpList_store_row rfl 36 (.tmp 2) (.tmp 56) rfl w.heap.size (OpV.cells ⟨(K : Int), level, session, snap, bucket, key, value, label, dst, nn, keep⟩ A c') rfl rfl _ _ HC.out.2.2 op_info rfl (by simp [OpV.cells, Value.oneCell']) ?_)
            obtain ⟨hb2, hO2, hR2⟩ := HC.out
            refine bodyPost_ret_by (results_cell_tmp_row rfl _ _ w.heap.size _ _ rfl rfl (run_loadVar_row _ _ _ _ _ _ _ (setRow_heap _ _ _ _ _ _ hR2) Tryz.underlying36 rfl op_info)) rfl ?_
            refine ⟨below_setRow (HB.out.2.2.2.2.trans (hb2.mono HB.out.2.2.2.2.size)) (Nat.le_refl _) _, .inr ⟨by show (K : Int) < 17; omega, A, c', rfl, ?_, fun a ha => by have h1 := hfr a ha; have h2 := Hb1.out.size; simp at h2; omega⟩⟩
            refine HB.out.2.1 _ (fun q hq hq2 => ?_) ?_
            · have h1 : q.block ≠ w.heap.size := by have := Hb1.out.size; simp at this; omega
              rw [cell_setRow_other _ _ _ _ h1]
              exact hb2.cell hq2
            · rw [setRow_size]
              exact hb2.size
          · have h17' : K = 17 := by omega
            subst h17'
            go_wp2_with (refine wpList_store_row rfl 36 (.tmp 2) (.tmp 55) rfl w.heap.size (kindCells 0) rfl rfl _ _ HB.out.2.2.2.1 op_info rfl (by simp [kindCells, Value.oneCell']) ?_)
            refine bodyPost_ret_by (results_cell_tmp_row rfl _ _ w.heap.size _ _ rfl rfl (run_loadVar_row _ _ _ _ _ _ _ (setRow_heap _ _ _ _ _ _ HB.out.2.2.2.1) Tryz.underlying36 rfl op_info)) rfl ?_
            exact ⟨below_setRow HB.out.2.2.2.2 (Nat.le_refl _) _, .inl ⟨rfl, rfl⟩⟩

end Go.Proofs.YtkgkhcfonlhphaaGreatDoor
