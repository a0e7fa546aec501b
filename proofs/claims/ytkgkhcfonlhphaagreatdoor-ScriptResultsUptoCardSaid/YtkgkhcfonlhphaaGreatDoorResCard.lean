/-
  The law ScriptResults holds wherever what it reads is of bulk at most 1048576: its second row and that row's tied card, proved. Conditions: that bulk; those of the row (the listed package-level variables as the program's text lays them).
-/
import Derived.Test.YtkgkhcfonlhphaaGreatDoorOpIn
namespace Go.Proofs.YtkgkhcfonlhphaaGreatDoor
open Go.ChangeShapes Go.WideShapes Go.ChangeAt Go.Deep Go.RowKit
namespace ResCard

theorem own : ownKnob Tryz.prog.godebug = none := by kernel_rfl

theorem bulk_part {H : Type} {d : DataW H} {parts : List (DataW H)} {j : Nat} (h : parts[j]? = some d) : Rows.uptoBulk d ≤ Rows.uptoBulk (.agg parts) := by
  have := bulk_mem (List.mem_of_getElem? h)
  simp only [Rows.uptoBulk]
  omega

set_option maxRecDepth 100000 in
theorem rd_res {H : Type} {enc : TypeId × Value → H} {W : World} {spare : Nat → Bool} {held : Bool} {r : Reach} {b0 : Nat} {v : Value} {d : DataW H} {p : List MemPlace} (hv : Value.okWide Tryz.prog W r b0 28 v) (h : DataW.Trod enc Tryz.prog W 0 spare held 28 v d p) (hd : Rows.uptoBulk d ≤ 1048576) :
    ∃ (x : ResV) (A : Option Addr) (n c : Nat) (A2 : Option Addr) (n2 c2 : Nat), v = resVal x A n c A2 n2 c2 ∧ ResAt W x A n c A2 n2 c2 ∧ I64 x.E ∧ I64 x.N ∧ I64 x.live ∧ I64 x.free ∧ I64 x.wait ∧ I64 x.high ∧ (∀ r ∈ x.rows, r.ok) ∧ ∀ r ∈ x.recs, r.ok := by
  obtain ⟨cs, rfl, hsz⟩ := okWide_struct Tryz.underlying28 hv
  obtain ⟨l⟩ := cs
  match l, hsz.trans cells_res with
  | [c0, c1, c2, c3, c4, c5, c6, c7], _ =>
    obtain ⟨fuel, hf0⟩ := h
    obtain ⟨xs, m, _, hx, _, hxl, hf⟩ := DataW.trod_struct (cs := [c0, c1, c2, c3, c4, c5, c6, c7]) Tryz.underlying28 hf0
    match xs, hxl with
    | [x0, x1, x2, x3, x4], _ =>
      have h0 : DataW.trod enc Tryz.prog W 0 spare held m 22 (([c0, c1, c2, c3, c4, c5, c6, c7].drop 0).take (Tryz.prog.cellsOf 22)) = some x0 := hf 0 _ rfl
      have h1 : DataW.trod enc Tryz.prog W 0 spare held m 3 (([c0, c1, c2, c3, c4, c5, c6, c7].drop 1).take (Tryz.prog.cellsOf 3)) = some x1 := hf 1 _ rfl
      have h2 : DataW.trod enc Tryz.prog W 0 spare held m 23 (([c0, c1, c2, c3, c4, c5, c6, c7].drop 2).take (Tryz.prog.cellsOf 23)) = some x2 := hf 2 _ rfl
      have h3 : DataW.trod enc Tryz.prog W 0 spare held m 25 (([c0, c1, c2, c3, c4, c5, c6, c7].drop 3).take (Tryz.prog.cellsOf 25)) = some x3 := hf 3 _ rfl
      have h4 : DataW.trod enc Tryz.prog W 0 spare held m 26 (([c0, c1, c2, c3, c4, c5, c6, c7].drop 7).take (Tryz.prog.cellsOf 26)) = some x4 := hf 4 _ rfl
      rw [cells_errno] at h0
      rw [cells_int] at h1
      rw [cells_rows] at h2
      rw [cells_stats] at h3
      rw [cells_recs] at h4
      have hd2 : d = .agg [x0.1, x1.1, x2.1, x3.1, x4.1] := (Prod.mk.inj hx).1
      rw [hd2] at hd
      have b2 : Rows.uptoBulk x2.1 ≤ 1048576 := Nat.le_trans (bulk_part (j := 2) rfl) hd
      have b4 : Rows.uptoBulk x4.1 ≤ 1048576 := Nat.le_trans (bulk_part (j := 4) rfl) hd
      obtain ⟨E, rfl, wE⟩ := rd_errno (c := c0) h0
      obtain ⟨N, rfl, wN, _⟩ := rd_int (c := c1) h1
      obtain ⟨A, n, c, rows, rfl, hl, hc, hR, hq, _⟩ := read_slice (α := RowV) (v := c2) Tryz.underlying23 3 cells_row (by decide) rowCells (fun _ => rfl) (fun (r : RowV) (y : DataW H) => I64 r.label ∧ r.key.size ≤ Rows.uptoBulk y ∧ r.val.size ≤ Rows.uptoBulk y) (fun n cs' y h => rd_row h) h2
      obtain ⟨A2, n2, cc2, recs, rfl, hl2, hc2, hR2, hq2, _⟩ := read_slice (α := RecV) (v := c7) Tryz.underlying26 6 cells_rec (by decide) recCells (fun _ => rfl) (fun (r : RecV) (y : DataW H) => I64 r.actor ∧ I64 r.src ∧ I64 r.dst ∧ r.digest < 4294967296 ∧ r.bucket.size ≤ Rows.uptoBulk y ∧ r.key.size ≤ Rows.uptoBulk y) (fun n cs' y h => rd_rec h) h4
      obtain ⟨ys, m', _, _, _, hyl, hg⟩ := DataW.trod_struct (cs := [c3, c4, c5, c6]) Tryz.underlying25 h3
      match ys, hyl with
      | [y0, y1, y2, y3], _ =>
        have g0 : DataW.trod enc Tryz.prog W 0 spare held m' 3 (([c3, c4, c5, c6].drop 0).take (Tryz.prog.cellsOf 3)) = some y0 := hg 0 _ rfl
        have g1 : DataW.trod enc Tryz.prog W 0 spare held m' 3 (([c3, c4, c5, c6].drop 1).take (Tryz.prog.cellsOf 3)) = some y1 := hg 1 _ rfl
        have g2 : DataW.trod enc Tryz.prog W 0 spare held m' 3 (([c3, c4, c5, c6].drop 2).take (Tryz.prog.cellsOf 3)) = some y2 := hg 2 _ rfl
        have g3 : DataW.trod enc Tryz.prog W 0 spare held m' 3 (([c3, c4, c5, c6].drop 3).take (Tryz.prog.cellsOf 3)) = some y3 := hg 3 _ rfl
        rw [cells_int] at g0 g1 g2 g3
        obtain ⟨live, rfl, w3, _⟩ := rd_int (c := c3) g0
        obtain ⟨free, rfl, w4, _⟩ := rd_int (c := c4) g1
        obtain ⟨wait, rfl, w5, _⟩ := rd_int (c := c5) g2
        obtain ⟨high, rfl, w6, _⟩ := rd_int (c := c6) g3
        refine ⟨⟨E, N, rows, live, free, wait, high, recs⟩, A, n, c, A2, n2, cc2, rfl, ⟨hl.symm, hl2.symm, hc, hc2, hR, hR2⟩, wE, wN, w3, w4, w5, w6, fun r hr => ?_, fun r hr => ?_⟩
        · obtain ⟨y, ⟨q1, q2, q3⟩, _, hb⟩ := hq r hr
          exact ⟨by omega, q1, by omega⟩
        · obtain ⟨y, ⟨q1, q2, q3, q4, q5, q6⟩, _, hb⟩ := hq2 r hr
          exact ⟨q1, q2, q3, by omega, by omega, q4⟩

set_option maxRecDepth 100000 in
theorem contract (H : Type) (enc : TypeId × Value → H) (W : World) (base : Nat) (args : Array Value) (ds gs : List (DataW H)) (before : List MemPlace)
    (hval : ∀ (j : Nat) t v, Tryz.f3.params[j]? = some t → args[j]? = some v → Value.okWide Tryz.prog W .any base t v)
    (hW : DataW.Whole enc Tryz.prog Tryz.f3.params.toList Rows.scriptResultsSpec.vars false W args.toList ds gs before)
    (hk : Rows.uptoSmall H (ds ++ gs) = true) (hL : laidMetH Tryz.prog laidList W) (hsh : W.ShapedOpen Tryz.prog) :
    Calls Tryz.prog 3 args W fun e W' => ∃ v, e = .returned v ∧ Rows.scriptResultsSpec.post enc Tryz.prog Tryz.f3 false true false false W args v W' := by
  have hW' := hW
  obtain ⟨p, q, hA0, hV, rfl, hfz, hnd⟩ := hW
  have hA : DataW.TrodAll enc Tryz.prog W 0 (fun _ => true) true Tryz.f3.params.toList args.toList ds p := hA0
  rw [Tryz.params3] at hA hval
  obtain ⟨v0, d0, rfl, rfl, h0⟩ := trodAll_one hA
  obtain ⟨rfl, rfl⟩ := trodVars_none hV
  clear hA0 hA
  simp only [List.append_nil] at hW' hk
  have hbulk : Rows.uptoBulk d0 ≤ 1048576 := by
    have h : Rows.uptoBulkAll [d0] ≤ 1048576 := of_decide_eq_true hk
    simp only [Rows.uptoBulkAll] at h
    omega
  have hlt : ∀ x ∈ p, x.block < W.heap.size := fun x hx => hW'.lt x (by simp [hx])
  obtain ⟨x, A, n, c, A2, n2, c2, hv, hR, w1, w2, w3, w4, w5, w6, hr1, hr2⟩ := rd_res (hval 0 _ _ rfl rfl) h0 hbulk
  have fin := law_ScriptResults x A n c A2 n2 c2 W w1 w2 w3 w4 w5 w6 hr1 hr2 hR (tabs_in hL hsh)
  rw [← hv] at fin
  refine fin.mono fun e W' ⟨he, hb⟩ => ?_
  subst he
  exact ⟨_, rfl, post_of_below' (pa := p) (pv := []) hW' (fun _ _ _ => trodAll_mk1 (shut_bool Tryz.underlying4 _))
    (fun sp hsp => trodAll_mk1 (WideElems.Trod_stays laid_out (by kernel_rfl) (of_decide_eq_true (by kernel_rfl)) h0 (fun x hx => hb.same (hlt x hx)) (fun x hx => hsp x (by simp [hx]))))
    (fun _ _ => rfl) (by simp) hb (ok_one (by kernel_rfl) rfl (okWide_bool_mk Tryz.underlying4 _))⟩

def wit : Value := .agg #[.int .i64 0, .int .i64 0, .slice none 0 0, .int .i64 0, .int .i64 0, .int .i64 0, .int .i64 0, .slice none 0 0]

theorem laid_met (os : Os) : laidMet Tryz.prog Rows.scriptResultsUptoRow.laid ((World.laidAll Tryz.prog os Rows.scriptResultsUptoRow.laid).forCall (fun _ _ => 0) ⟨#[], #[wit], []⟩).memory :=
  laidMet_laidAll _ (by kernel_rfl) (by kernel_rfl)
theorem reads (os : Os) {H : Type} (enc : TypeId × Value → H) : ∃ places, DataW.whole enc Tryz.prog ((World.laidAll Tryz.prog os Rows.scriptResultsUptoRow.laid).forCall (fun _ _ => 0) ⟨#[], #[wit], []⟩).memory Tryz.f3.params.toList Rows.scriptResultsSpec.vars false #[wit].toList 8 =
    some ([.agg [.lit (.int .i64 0), .lit (.int .i64 0), .nil, .agg [.lit (.int .i64 0), .lit (.int .i64 0), .lit (.int .i64 0), .lit (.int .i64 0)], .nil]], [], places) :=
  ⟨[], by kernel_rfl⟩

set_option maxRecDepth 100000 in
theorem lifted (os : Os) (started : os.Started) (H : Type) (enc : TypeId × Value → H) (F : Stop.Interp) :
    ReturnsInHanded {} Tryz.checked os 3 .any ((Rows.OpenSpec.upto Rows.scriptResultsSpec).preRow enc Tryz.prog Tryz.f3 Rows.scriptResultsUptoRow.domain false Rows.scriptResultsUptoRow.laid) (((Rows.OpenSpec.upto Rows.scriptResultsSpec).at F).post enc Tryz.prog Tryz.f3 false true false false) := by
  obtain ⟨places, hx⟩ := reads os enc
  refine returnsInHanded_of_row (C := Tryz.checked) (s := Rows.OpenSpec.upto Rows.scriptResultsSpec) own started (by kernel_rfl) Tryz.func3
    (witness_row_atRef (enc := enc) (C := Tryz.checked) false (World.laidAll Tryz.prog os Rows.scriptResultsUptoRow.laid) #[wit] (World.laidAll_os _ _ _) (by kernel_rfl) (by kernel_rfl) (by kernel_rfl)
      (OpenSpec.preRow_of_cond 8 hx (by kernel_rfl) (fun k hk => by cases hk; kernel_rfl) (by kernel_rfl) (Eq.mpr (laid_plain _) (laid_met os)))) ?_
  intro W base args ds gs before hval hW _ hk _ hL hsh _
  exact contract H enc W base args ds gs before hval hW (hk _ rfl) hL hsh

theorem said : Rows.ScriptResultsUptoSaid :=
  OpenClaim.holds_of_cond 3 Tryz.f3 rfl rfl rfl rfl rfl rfl rfl ⟨rfl, rfl, rfl, rfl, rfl⟩ rfl rfl rfl rfl rfl (by kernel_rfl) Tryz.func3 (by kernel_rfl)
    (of_decide_eq_true (by kernel_rfl)) (by unfold Func.isWrapper; first | (rw [if_pos (by decide +kernel)]; kernel_rfl) | (rw [if_neg (by decide +kernel)]; exact ⟨rfl, rfl⟩))
    (fun os started H enc _ F => by rw [OpenClaim.pre_eq_preRow]; exact lifted os started H enc F)

theorem plain (f : FuncId) (fn : Func) (hf : Tryz.pinned.checked.prog.funcNamed "jalousie/jalousielaw31.ScriptResults" = some f) (hfn : Tryz.pinned.checked.prog.funcs[f]? = some fn) :
    true = Tryz.pinned.checked.prog.looks [] ∧ ∀ (j : Nat) t, fn.params[j]? = some t → Tryz.pinned.checked.prog.wantsStandIn t = false := by
  obtain rfl : f = 3 := Option.some.inj ((show Tryz.prog.funcNamed "jalousie/jalousielaw31.ScriptResults" = some 3 by kernel_rfl).symm.trans hf) |>.symm
  obtain rfl : fn = Tryz.f3 := (Option.some.inj (Tryz.func3.symm.trans hfn)).symm
  refine ⟨by kernel_rfl, fun j t ht => ?_⟩
  rw [Tryz.params3] at ht
  have hm : t ∈ [28] := by simpa using Array.mem_of_getElem? ht
  have hall : ([28].all fun u => !Tryz.prog.wantsStandIn u) = true := by kernel_rfl
  exact (show Tryz.prog.wantsStandIn t = false by simpa using List.all_eq_true.1 hall t hm)

end ResCard

/-- ████ THE SECOND FORM's CARD ████ -/
theorem scriptResultsUpto_card : Rows.ScriptResultsUptoCardSaid :=
  Claim7.holds_tied_plain_at .later [] _ _ _ _ ResCard.said (fun _ h => by cases h) (by kernel_rfl) (fun _ h => by cases h) scriptResultsUpto_row_tie rfl ⟨rfl, rfl⟩ (by kernel_rfl) rfl ResCard.plain (by kernel_rfl)
#print axioms scriptResultsUpto_card
end Go.Proofs.YtkgkhcfonlhphaaGreatDoor
