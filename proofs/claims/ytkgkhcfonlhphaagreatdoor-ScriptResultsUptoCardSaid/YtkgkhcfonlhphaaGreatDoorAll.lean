/- The contract of script.All at lines that are shown operations, notes or empty, with a last one that is none, or without. -/
import Derived.Test.YtkgkhcfonlhphaaGreatDoorLines
namespace Go.Proofs.YtkgkhcfonlhphaaGreatDoor
open Go.RowKit

def opCells (x : OpV × (Option Addr × Nat)) : List Value := (x.1.cells x.2.1 x.2.2).toList

/-- the texts kept do not lie in a row's block -/
def KeepOff (v : Value) (o : OpV) (A : Option Addr) : Prop := 0 < o.keep.length → ∀ a, A = some a → v.ownBlock ≠ some a.block

/-- a row of operations that is ours -/
def OpsAt (B : Nat) (v : Value) (os : List OpV) (w : World) : Prop :=
  ∃ vs : List (Option Addr × Nat), vs.length = os.length ∧ w.ownsRow B 36 11 v os.length ((os.zip vs).flatMap opCells) ∧ ∀ x ∈ os.zip vs, KeepAt w x.1 x.2.1 x.2.2 ∧ KeepOff v x.1 x.2.1

theorem ops_nil (B : Nat) (w : World) : OpsAt B (.slice none 0 0) [] w := ⟨[], rfl, ⟨rfl, .inl ⟨rfl, rfl⟩⟩, by intro x hx; cases hx⟩

theorem KeepAt.keep {w w' : World} {o : OpV} {A : Option Addr} {c : Nat} (h : KeepAt w o A c) (hb : Below w.heap.size w w') : KeepAt w' o A c := ⟨h.1, (h.2.below hb).more hb.size⟩

theorem KeepAt.grown {w w' : World} {o : OpV} {A : Option Addr} {c : Nat} {v : Value} (h : KeepAt w o A c) (hg : w.grownBy w' v.ownBlock) (ho : KeepOff v o A) : KeepAt w' o A c := by
  refine ⟨h.1, h.2.1, fun h0 => ?_⟩
  obtain ⟨b, f, rfl, hb, hc⟩ := h.2.2 h0
  refine ⟨b, f, rfl, Nat.lt_of_lt_of_le hb hg.size, fun j u hu => ?_⟩
  rw [World.cell?_of_block (w := w) (hg.block b hb (fun e => ho h0 _ rfl e.symm))]
  exact hc j u hu

theorem KeepOff.next {w : World} {o : OpV} {A : Option Addr} {c : Nat} {v v' : Value} (h : KeepAt w o A c) (ho : KeepOff v o A) (hp : v'.ownBlock = v.ownBlock ∨ v'.ownBlock = some w.heap.size) : KeepOff v' o A := by
  intro h0 a ha
  rcases hp with e | e
  · rw [e]
    exact ho h0 a ha
  · obtain ⟨b, f, hA, hb, _⟩ := h.2.2 h0
    rw [ha] at hA
    cases hA
    rw [e]
    intro e2
    have h2 : w.heap.size = b := Option.some.inj e2
    omega

theorem OpsAt.keep {B : Nat} {v : Value} {os : List OpV} {w w' : World} (h : OpsAt B v os w) (hb : Below w.heap.size w w') : OpsAt B v os w' := by
  obtain ⟨vs, h1, h2, h3⟩ := h
  exact ⟨vs, h1, own_keep h2 hb, fun x hx => ⟨(h3 x hx).1.keep hb, (h3 x hx).2⟩⟩

theorem OpsAt.snoc {B : Nat} {v v' : Value} {os : List OpV} {o : OpV} {A : Option Addr} {c : Nat} {w w' : World} (vs : List (Option Addr × Nat)) (hl : vs.length = os.length) (hk : ∀ x ∈ os.zip vs, KeepAt w x.1 x.2.1 x.2.2 ∧ KeepOff v x.1 x.2.1)
    (hown : w'.ownsRow B 36 11 v' (os.length + 1) ((os.zip vs).flatMap opCells ++ opCells (o, A, c))) (hg : w.grownBy w' v.ownBlock) (hp : v'.ownBlock = v.ownBlock ∨ v'.ownBlock = some w.heap.size)
    (ho : KeepAt w o A c) (hoff : KeepOff v o A) : OpsAt B v' (os ++ [o]) w' := by
  have hz : (os ++ [o]).zip (vs ++ [(A, c)]) = os.zip vs ++ [(o, A, c)] := by rw [List.zip_append hl.symm]; rfl
  refine ⟨vs ++ [(A, c)], by simp [hl], ?_, ?_⟩
  · rw [hz, List.flatMap_append, List.length_append]
    simpa using hown
  · rw [hz]
    intro x hx
    rcases List.mem_append.1 hx with h | h
    · exact ⟨(hk x h).1.grown hg (hk x h).2, (hk x h).2.next (hk x h).1 hp⟩
    · rw [List.mem_singleton.1 h]
      exact ⟨ho.grown hg hoff, hoff.next ho hp⟩

theorem own_out {B : Nat} {e : TypeId} {size : Nat} {v : Value} {n : Nat} {xs : List Value} {w : World} (h : w.ownsRow B e size v n xs) : ∀ g, v.ownBlock = some g → B ≤ g ∧ g < w.heap.size := by
  intro g hg
  rcases h.2 with ⟨rfl, _⟩ | ⟨g', cap, cur, rfl, hb, hh, _⟩
  · simp [Value.ownBlock] at hg
  · have : g' = g := Option.some.inj hg
    subst this
    exact ⟨hb, (Array.getElem?_eq_some_iff.1 hh).1⟩

/-- a line, and the operation that it tells -/
abbrev Item := List UInt8 × Option OpV
def ItemOk (x : Item) : Prop := (x.2 = none ∧ (x.1 = [] ∨ ∃ t, x.1 = 35 :: t) ∧ ∀ b ∈ x.1, b ≠ 10) ∨ ∃ o, x.2 = some o ∧ o.ok ∧ named o ∧ x.1 = showL o
def opsOf (l : List Item) : List OpV := l.filterMap (·.2)
def linesOf (l : List Item) (last : Bool) : List (List UInt8) := l.map (·.1) ++ if last then [nothingL] else []

theorem lines_no_nl {l : List Item} (h : ∀ x ∈ l, ItemOk x) (last : Bool) : ∀ y ∈ linesOf l last, ∀ b ∈ y, b ≠ 10 := by
  intro y hy
  unfold linesOf at hy
  rcases List.mem_append.1 hy with hy | hy
  · obtain ⟨x, hx, rfl⟩ := List.mem_map.1 hy
    rcases h x hx with ⟨_, _, h⟩ | ⟨o, _, _, hn, e⟩
    · exact h
    · rw [e]
      exact show_no_nl hn
  · cases last
    · cases hy
    · rw [List.mem_singleton.1 hy]
      decide

theorem opsOf_step (l : List Item) (k : Nat) (x : Item) (h : l[k]? = some x) : opsOf (l.take (k + 1)) = opsOf (l.take k) ++ x.2.toList := by
  unfold opsOf
  rw [List.take_add_one, h, List.filterMap_append]
  cases hx : x.2 <;> simp [hx]

def AllPost (l : List Item) (last : Bool) (w : World) (e : Ending) (w' : World) : Prop :=
  Below w.heap.size w w' ∧ (last = false → ∃ v, e = .returned (.tuple #[v, .int .i64 0]) ∧ OpsAt (w.heap.size + 1) v (opsOf l) w') ∧ (last = true → e = .returned (.tuple #[.slice none 0 0, .int .i64 ((l.length : Int) + 1)]))

theorem op_info4 : (Tryz.prog.info? 36).map (fun i => (i.zero, i.size, i.bytes)) = some (some (.agg (kindCells 0)), 11, 128) := by kernel_rfl

set_option maxHeartbeats 1000000 in
set_option maxRecDepth 100000 in
theorem scr_All (l : List Item) (last : Bool) (hok : ∀ x ∈ l, ItemOk x) (hne : linesOf l last ≠ []) (hl : l.length ≤ 1000) (hsz : (linesL (linesOf l last)).length ≤ 1000000000) (w : World) (hT : Tabs3 w) :
    Calls Tryz.prog 11 #[.string ⟨(linesL (linesOf l last)).toArray⟩] w (AllPost l last w) := by
  obtain ⟨i0, hi, hz0, hz1, hz2⟩ := info_parts op_info4
  obtain ⟨hcnt, hsplit⟩ := lines_splitB (linesOf l last) hne (lines_no_nl hok last)
  obtain ⟨m, hm⟩ := hT.maxAt
  have hcall := Tryz.strings_Split ⟨(linesL (linesOf l last)).toArray⟩ ⟨#[10]⟩ m w (by show (linesL (linesOf l last)).toArray.size < _; rw [List.size_toArray]; omega) hm (by decide)
  rw [hsplit, hcnt] at hcall
  obtain ⟨ls, hls⟩ : ∃ ls, linesOf l last = ls := ⟨_, rfl⟩
  rw [hls] at hcall
  rw [hls]
  generalize (⟨(linesL ls).toArray⟩ : ByteArray) = s at *
  have hlen : ls.length = l.length + if last then 1 else 0 := by
    rw [← hls]
    unfold linesOf
    cases last <;> simp
  obtain ⟨n, hn⟩ : ∃ n, ls.length = n := ⟨_, rfl⟩
  rw [hn] at hcall
  obtain ⟨wS, hwS⟩ : ∃ W, w.alloc (.cells (List.map Value.string (List.map (fun l => (⟨l.toArray⟩ : ByteArray)) ls)).toArray 9) = W := ⟨_, rfl⟩
  rw [hwS] at hcall
  have hcells : ∀ (k : Nat) x, ls[k]? = some x → wS.cell? ⟨w.heap.size, k, none⟩ = some (.string ⟨x.toArray⟩) := by
    intro k x h
    rw [← hwS]
    simp [h]
  have hbS : Below w.heap.size w wS := by rw [← hwS]; exact (Below.refl _ _).alloc (Nat.le_refl _) _
  have hsS : wS.heap.size = w.heap.size + 1 := by rw [← hwS]; simp
  have HT := Lib.hid (hT.below hbS)
  have HC := Lib.hid hcall
  have Hcells := Lib.hid hcells
  have HbS := Lib.hid hbS
  have Hok := Lib.hid hok
  have Hlen := Lib.hid hlen
  have Hls := Lib.hid hls
  have Hn := Lib.hid hn
  have hn2 : n ≤ 1001 := by
    have := hlen
    split at this <;> omega
  clear hcall hcells hbS hok hlen hls hn hwS hcnt hsplit hm hT hsz hne
  go_enter Tryz.func11, Tryz.ntmps11
  go_wp2_with (go_at_call 26; refine HC.out.mono ?_)
  rintro e w' ⟨rfl, hw'⟩
  rw [hw']
  clear hw' w'
  go_wp2_with fail
  go_loopw [4, 12] (fun v i wr => ∃ (k : Nat) (os : List OpV), k ≤ l.length ∧ i = .int .i64 (k : Int) ∧ OpsAt (w.heap.size + 1) v os wr ∧ os = opsOf (l.take k) ∧ os.length ≤ k ∧ Below wS.heap.size wS wr) (fun _ i _ => n - (intOf i).toNat)
  case atStart => exact ⟨0, _, by omega, rfl, ops_nil _ _, by simp [opsOf], by simp, Below.refl _ _⟩
  case round =>
    obtain ⟨k, os, hk, rfl, hO, hos, hosl, hb⟩ := hrel
    have Hos := Lib.hid hos
    clear hos
    by_cases hlt : k < n
    · obtain ⟨x, hx⟩ : ∃ x, ls[k]? = some x := ⟨_, List.getElem?_eq_getElem (show k < ls.length by rw [Hn.out]; exact hlt)⟩
      have cl : wr.cell? ⟨w.heap.size, k, none⟩ = some (.string ⟨x.toArray⟩) := by
        rw [hb.cell (p := ⟨w.heap.size, k, none⟩) (by simp; omega)]
        exact Hcells.out k x hx
      have HB := Lib.hid (And.intro hO hb)
      have HX := Lib.hid hx
      clear hO hb hx
      rcases Nat.lt_or_ge k l.length with hkl | hkl
      · obtain ⟨y, hy⟩ : ∃ y, l[k]? = some y := ⟨_, List.getElem?_eq_getElem hkl⟩
        have hxy : x = y.1 := by
          have h := HX.out
          rw [← Hls.out] at h
          unfold linesOf at h
          rw [List.getElem?_append_left (by simpa using hkl), List.getElem?_map, hy] at h
          exact (Option.some.inj h).symm
        have hstep := opsOf_step l k y hy
        have Hstep := Lib.hid hstep
        clear hstep
        have hmem := Hok.out y (List.mem_of_getElem? hy)
        clear hy
        rcases hmem with ⟨h2, h1, _⟩ | ⟨o, h2, ho, hnm, h1⟩
        · have Hnext := Lib.hid (show ∀ v, OpsAt (w.heap.size + 1) v os wr → ∃ (k' : Nat) (os : List OpV), k' ≤ l.length ∧ Value.int .i64 ((k : Int) + 1) = .int .i64 (k' : Int) ∧ OpsAt (w.heap.size + 1) v os wr ∧ os = opsOf (l.take k') ∧ os.length ≤ k' ∧ Below wS.heap.size wS wr from
            fun v hv => ⟨k + 1, os, by omega, by go_num, hv, by rw [Hstep.out, h2, ← Hos.out]; simp, by omega, HB.out.2⟩)
          rcases h1 with h1 | ⟨t, h1⟩
          · rw [h1] at hxy
            subst hxy
            go_wp2_with fail
            exact ⟨Hnext.out _ HB.out.1, by simp [intOf]; omega⟩
          · rw [h1] at hxy
            subst hxy
            have hd : ((((⟨(35 :: t).toArray⟩ : ByteArray)[0]'(by show 0 < (35 :: t).toArray.size; simp)).toNat : Int) == 35) = true := by rfl
            go_wp2_with fail
            exact ⟨Hnext.out _ HB.out.1, by simp [intOf]; omega⟩
        · obtain ⟨c, t, hct, h35⟩ := show_head hnm
          rw [h1, hct] at hxy
          subst hxy
          have hP := parse_show o ho hnm wr (HT.out.below HB.out.2)
          rw [hct] at hP
          have hd : ((((⟨(c :: t).toArray⟩ : ByteArray)[0]'(by show 0 < (c :: t).toArray.size; simp)).toNat : Int) == 35) = false := by
            show ((c.toNat : Int) == 35) = false
            rw [beq_eq_false_iff_ne]
            intro h
            exact h35 (UInt8.toNat_inj.1 (by show c.toNat = 35; omega))
          have HP := Lib.hid hP
          clear hP hct h1
          go_wp2_with (go_at_call 13; refine HP.out.mono ?_)
          rintro e w2 ⟨hb2, A, c', rfl, hKp, hfr⟩
          have HR := Lib.hid (And.intro hb2 (And.intro hKp (And.intro hfr h2)))
          clear hb2 hKp hfr h2 ho hnm
          obtain ⟨kind, level, session, snap, bucket, key, value, label, dst, nn, keep⟩ := o
          obtain ⟨vs, hvl, hown, hkeep⟩ := HB.out.1
          have hown2 := ((own_keep hown HR.out.1).alloc (.cells #[.int .i64 kind, .int .i64 level, .int .i64 session, .int .i64 snap, .string bucket, .string key, .string value, .int .i64 label, .int .i64 dst, .int .i64 nn, .slice A keep.length c'] 36)).alloc (.cells #[.int .i64 kind, .int .i64 level, .int .i64 session, .int .i64 snap, .string bucket, .string key, .string value, .int .i64 label, .int .i64 dst, .int .i64 nn, .slice A keep.length c'] 36)
          have hs2 : w.heap.size + 1 ≤ w2.heap.size := by have h1 := HB.out.2.size; have h2 := HR.out.1.size; omega
          have HO := Lib.hid (And.intro hvl (And.intro hown hkeep))
          have HW2 := Lib.hid hown2
          clear hvl hown hkeep hown2
          simp only [OpV.cells]
          go_wp2_with (at_builtin; refine wpList_append_own_at _ rfl _ _ 32 rfl (w.heap.size + 1) 36 i0 (.agg (kindCells 0)) 11 128 Tryz.underlying32 hi hz0 hz1 hz2 rfl (by decide) _ _ _ rfl HW2.out ⟨w2.heap.size + 1, 0, none⟩ 1 1 [.int .i64 kind, .int .i64 level, .int .i64 session, .int .i64 snap, .string bucket, .string key, .string value, .int .i64 label, .int .i64 dst, .int .i64 nn, .slice A keep.length c'] rfl rfl ?c1 ?c2 ?c3 ?c4 ?c5 ?_)
          case c1 =>
            have h0 := heap_alloc2_new w2 (.cells #[.int .i64 kind, .int .i64 level, .int .i64 session, .int .i64 snap, .string bucket, .string key, .string value, .int .i64 label, .int .i64 dst, .int .i64 nn, .slice A keep.length c'] 36) (.cells #[.int .i64 kind, .int .i64 level, .int .i64 session, .int .i64 snap, .string bucket, .string key, .string value, .int .i64 label, .int .i64 dst, .int .i64 nn, .slice A keep.length c'] 36)
            exact World.news_of_block (t := 36) (fr := (0, 0)) h0
          case c2 => intro u hu; simp at hu; rcases hu with rfl | rfl | rfl | rfl | rfl | rfl | rfl | rfl | rfl | rfl | rfl <;> rfl
          case c3 => unfold maxLen; omega
          case c4 => omega
          case c5 => simp; omega
          intro v' w3 hown hgrow _ hplace
          go_wp2
          obtain ⟨hvl, hown0, hkeep⟩ := HO.out
          obtain ⟨hb2, hKp, hfr, h2⟩ := HR.out
          have hbA : Below w2.heap.size w2 ((w2.alloc (.cells #[.int .i64 kind, .int .i64 level, .int .i64 session, .int .i64 snap, .string bucket, .string key, .string value, .int .i64 label, .int .i64 dst, .int .i64 nn, .slice A keep.length c'] 36)).alloc (.cells #[.int .i64 kind, .int .i64 level, .int .i64 session, .int .i64 snap, .string bucket, .string key, .string value, .int .i64 label, .int .i64 dst, .int .i64 nn, .slice A keep.length c'] 36)) := ((Below.refl _ _).alloc (Nat.le_refl _) _).alloc (by simp) _
          have hbr := hb2.trans (hbA.mono hb2.size)
          have hout := own_out hown0
          have hbw := HB.out.2.trans (hbr.mono HB.out.2.size)
          refine ⟨⟨k + 1, os ++ [⟨kind, level, session, snap, bucket, key, value, label, dst, nn, keep⟩], by omega, by go_num, ?_, ?_, by simp; omega, ?_⟩, by simp [intOf]; omega⟩
          · refine OpsAt.snoc vs hvl (fun x hx => ⟨(hkeep x hx).1.keep hbr, (hkeep x hx).2⟩) hown hgrow (by simpa using hplace) (hKp.keep hbA) (fun _ a ha e => ?_)
            have h4 := (hout a.block e).2
            have h5 := hfr a ha
            omega
          · rw [Hstep.out, h2, ← Hos.out]
            rfl
          · exact hbw.grown hgrow hbw.size (fun g hg => by have := (hout g hg).1; omega)
      · have hl1 : last = true ∧ k = l.length := by
          have h1 := Hlen.out
          rw [Hn.out] at h1
          cases last
          · simp at h1; omega
          · exact ⟨rfl, by omega⟩
        obtain ⟨rfl, hkl2⟩ := hl1
        have hxn : x = nothingL := by
          have h := HX.out
          rw [← Hls.out] at h
          unfold linesOf at h
          rw [hkl2, List.getElem?_append_right (by simp), List.length_map, Nat.sub_self] at h
          exact (Option.some.inj h).symm
        subst hxn
        have HP := Lib.hid (parse_nothing wr (HT.out.below HB.out.2))
        have hd : ((((⟨nothingL.toArray⟩ : ByteArray)[0]'(by show 0 < nothingL.toArray.size; decide)).toNat : Int) == 35) = false := by rfl
        have hd2 : nothingL.isEmpty = false := rfl
        have hd3 : 0 < nothingL.length := by decide
        have HK := Lib.hid hkl2
        clear hkl2
        go_wp2_with (go_at_call 13; refine HP.out.mono ?_)
        intro e w2 hb2 he
        subst he
        simp only [kindCells]
        go_wp2_with fail
        go_ret2
        refine ⟨HbS.out.trans ((HB.out.2.trans (hb2.mono HB.out.2.size)).mono (by omega) |>.alloc (by have h1 := HB.out.2.size; have h2 := hb2.size; omega) _), fun h => (by cases h), fun _ => ?_⟩
        rw [HK.out]
        rfl
    · have hkn : last = false ∧ k = l.length := by
        have h1 := Hlen.out
        rw [Hn.out] at h1
        cases last
        · simp at h1; exact ⟨rfl, by omega⟩
        · simp at h1; omega
      obtain ⟨rfl, hkl⟩ := hkn
      have HK := Lib.hid hkl
      have HB := Lib.hid (And.intro hO hb)
      clear hkl hO hb
      go_wp2_with fail
      refine bodyPost_ret (results_tmp2 rfl _ _ _) rfl ?_
      refine ⟨HbS.out.trans (HB.out.2.mono (by omega)), fun _ => ⟨_, rfl, ?_⟩, fun h => by cases h⟩
      have h := HB.out.1
      rw [Hos.out, HK.out, List.take_of_length_le (Nat.le_refl _)] at h
      exact h

end Go.Proofs.YtkgkhcfonlhphaaGreatDoor
