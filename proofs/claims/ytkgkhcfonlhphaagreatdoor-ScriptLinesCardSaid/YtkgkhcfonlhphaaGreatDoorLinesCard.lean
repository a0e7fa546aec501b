/-
  The law ScriptLines holds for every input: its row and its tied card, proved. Conditions: those of the row alone (the listed package-level variables as the program's text lays them).
-/
import Derived.Test.YtkgkhcfonlhphaaGreatDoorOpIn
namespace Go.Proofs.YtkgkhcfonlhphaaGreatDoor
open Go.ChangeShapes Go.WideShapes Go.ChangeAt Go.Deep Go.RowKit
open Go.ChangeMaps (open_string shut_string)
namespace LinesCard

theorem own : ownKnob Tryz.prog.godebug = none := by kernel_rfl

theorem zip_parts {α β : Type} : ∀ l : List (α × β), (l.map (·.1)).zip (l.map (·.2)) = l
  | [] => rfl
  | _ :: l => by rw [List.map_cons, List.map_cons, List.zip_cons_cons, zip_parts l]

set_option maxRecDepth 100000 in
theorem contract (H : Type) (enc : TypeId × Value → H) (W : World) (base : Nat) (args : Array Value) (ds gs : List (DataW H)) (before : List MemPlace)
    (hval : ∀ (j : Nat) t v, Tryz.f4.params[j]? = some t → args[j]? = some v → Value.okWide Tryz.prog W .any base t v)
    (hW : DataW.Whole enc Tryz.prog Tryz.f4.params.toList Rows.scriptLinesSpec.vars false W args.toList ds gs before)
    (hz : (DataW.weightsEach Tryz.prog (Tryz.f4.params.toList ++ (OpenSpec.ofChange Rows.scriptLinesSpec).bare.plain.varTypes Tryz.prog) (ds ++ gs)).all (· ≤ reachBytes) = true)
    (hL : laidMetH Tryz.prog laidList W) (hsh : W.ShapedOpen Tryz.prog) :
    Calls Tryz.prog 4 args W fun e W' => ∃ v, e = .returned v ∧ Rows.scriptLinesSpec.post enc Tryz.prog Tryz.f4 false true false false W args v W' := by
  have hW' := hW
  obtain ⟨p, q, hA0, hV, rfl, hfz, hnd⟩ := hW
  have hA : DataW.TrodAll enc Tryz.prog W 0 (fun _ => true) true Tryz.f4.params.toList args.toList ds p := hA0
  rw [Tryz.params4] at hA hval hz
  obtain ⟨v0, v1, d0, d1, p0, p1, rfl, rfl, rfl, h0, h1⟩ := trodAll_two hA
  obtain ⟨rfl, rfl⟩ := trodVars_none hV
  obtain ⟨note, rfl, rfl, rfl, hns⟩ := open_string Tryz.underlying9 (hval 1 _ _ rfl rfl) h1
  clear hA0 hA
  simp only [List.append_nil] at hW' hz
  obtain ⟨a0, len0, cap0, rfl⟩ := okWide_slice Tryz.underlying32 (hval 0 _ _ rfl rfl)
  have hlt : ∀ x ∈ p0, x.block < W.heap.size := fun x hx => hW'.lt x (by simp [hx])
  have h0k := h0
  obtain ⟨fuel, hf⟩ := h0
  obtain ⟨A, n, c, l, hv, hl, hc, hR, hq, hB⟩ := read_slice (v := .slice a0 len0 cap0) Tryz.underlying32 11 cells_op (by decide) opCells (fun _ => rfl) (OpGood W) (fun n cs' y h => rd_op h) hf
  have hwt : ∀ q ∈ d0.weights Tryz.prog 32, q ≤ 140737488355328 := fun q hq => by
    have h1 := List.all_eq_true.1 hz q (DataW.weights_mem_each (j := 0) rfl rfl q hq)
    have h2 : reachBytes = 140737488351232 := rfl
    have h3 : q ≤ reachBytes := by simpa using h1
    omega
  have hnl := hB _ hwt
  have hb128 : Tryz.prog.bytesOf 36 = 128 := by kernel_rfl
  rw [hb128] at hnl
  have hnote : note.size ≤ 140737488355328 := by
    have h1 := List.all_eq_true.1 hz note.data.toList.length (DataW.weights_mem_each (j := 1) (t := 9) rfl rfl _ (by simp [DataW.weights]))
    have h2 : reachBytes = 140737488351232 := rfl
    have h3 : note.data.toList.length ≤ reachBytes := by simpa using h1
    have a0 : note.data.toList.length = note.size := by rw [Array.length_toList]; rfl
    omega
  have hz2 := zip_parts l
  have hlm : (l.map (·.1)).length = n := by simp [hl]
  have hO : OpsRead W A c (l.map (·.1)) := ⟨by rw [hlm]; exact hc, l.map (·.2), by simp, by rw [hz2, hlm]; exact hR, by rw [hz2]; intro x hx; obtain ⟨y, hg, _⟩ := hq x hx; exact hg.2.1⟩
  have hi : ∀ o ∈ l.map (·.1), o.ints ∧ o.sized := by
    intro o ho
    obtain ⟨x, hx, rfl⟩ := List.mem_map.1 ho
    obtain ⟨y, hg, hy, _⟩ := hq x hx
    obtain ⟨b1, b2, b3, b4, b5⟩ := hg.2.2 _ (fun q hq' => hwt q (hy q hq'))
    exact ⟨hg.1, b1, b2, b3, b4, b5⟩
  have fin := law_ScriptLines (l.map (·.1)) A c note W hO hi (by rw [hlm]; omega) hnote (tabs_in hL hsh)
  rw [hlm] at fin
  rw [hv] at h0k hval ⊢
  rw [hv] at hW'
  refine fin.mono fun e W' ⟨he, hb⟩ => ?_
  subst he
  exact ⟨_, rfl, post_of_below' (pa := p0 ++ []) (pv := []) hW' (fun _ _ _ => trodAll_mk1 (shut_bool Tryz.underlying4 _))
    (fun sp hsp => trodAll_mk2 (WideElems.Trod_stays laid_out (by kernel_rfl) (of_decide_eq_true (by kernel_rfl)) h0k (fun x hx => hb.same (hlt x hx)) (fun x hx => hsp x (by simp [hx]))) (shut_string Tryz.underlying9 hns))
    (fun _ _ => rfl) (by simp) hb (ok_one (by kernel_rfl) rfl (okWide_bool_mk Tryz.underlying4 _))⟩

theorem laid_met (os : Os) : laidMet Tryz.prog Rows.scriptLinesRow.laid ((World.laidAll Tryz.prog os Rows.scriptLinesRow.laid).forCall (fun _ _ => 0) ⟨#[], #[.slice none 0 0, .string ⟨#[]⟩], []⟩).memory :=
  laidMet_laidAll _ (by kernel_rfl) (by kernel_rfl)
theorem reads (os : Os) {H : Type} (enc : TypeId × Value → H) : ∃ places, DataW.whole enc Tryz.prog ((World.laidAll Tryz.prog os Rows.scriptLinesRow.laid).forCall (fun _ _ => 0) ⟨#[], #[.slice none 0 0, .string ⟨#[]⟩], []⟩).memory Tryz.f4.params.toList Rows.scriptLinesSpec.vars false #[Value.slice none 0 0, .string ⟨#[]⟩].toList 8 = some ([.nil, .lit (.string [])], [], places) :=
  ⟨[], by kernel_rfl⟩

set_option maxRecDepth 100000 in
theorem lifted (os : Os) (started : os.Started) (H : Type) (enc : TypeId × Value → H) (F : Stop.Interp) :
    ReturnsInHanded {} Tryz.checked os 4 .any ((OpenSpec.ofChange Rows.scriptLinesSpec).preRow enc Tryz.prog Tryz.f4 Rows.scriptLinesRow.domain false Rows.scriptLinesRow.laid) (((OpenSpec.ofChange Rows.scriptLinesSpec).at F).post enc Tryz.prog Tryz.f4 false true false false) := by
  obtain ⟨places, hx⟩ := reads os enc
  refine returnsInHanded_of_row (C := Tryz.checked) (s := OpenSpec.ofChange Rows.scriptLinesSpec) own started (by kernel_rfl) Tryz.func4
    (witness_row_atRef (enc := enc) (C := Tryz.checked) false (World.laidAll Tryz.prog os Rows.scriptLinesRow.laid) #[.slice none 0 0, .string ⟨#[]⟩] (World.laidAll_os _ _ _) (by kernel_rfl) (by kernel_rfl) (by kernel_rfl)
      (OpenSpec.preRow_of_cond 8 hx (by kernel_rfl) (fun k hk => by cases hk) (by kernel_rfl) (Eq.mpr (laid_plain _) (laid_met os)))) ?_
  intro W base args ds gs before hval hW _ _ hz hL hsh _
  exact contract H enc W base args ds gs before hval hW hz hL hsh

theorem said : Rows.ScriptLinesSaid :=
  OpenClaim.holds_of_cond 4 Tryz.f4 rfl rfl rfl rfl rfl rfl rfl ⟨rfl, rfl, rfl, rfl, rfl⟩ rfl rfl rfl rfl rfl (by kernel_rfl) Tryz.func4 (by kernel_rfl)
    (of_decide_eq_true (by kernel_rfl)) (by unfold Func.isWrapper; first | (rw [if_pos (by decide +kernel)]; kernel_rfl) | (rw [if_neg (by decide +kernel)]; exact ⟨rfl, rfl⟩))
    (fun os started H enc _ F => by rw [OpenClaim.pre_eq_preRow]; exact lifted os started H enc F)

theorem plain (f : FuncId) (fn : Func) (hf : Tryz.pinned.checked.prog.funcNamed "jalousie/jalousielaw31.ScriptLines" = some f) (hfn : Tryz.pinned.checked.prog.funcs[f]? = some fn) :
    true = Tryz.pinned.checked.prog.looks [] ∧ ∀ (j : Nat) t, fn.params[j]? = some t → Tryz.pinned.checked.prog.wantsStandIn t = false := by
  obtain rfl : f = 4 := Option.some.inj ((show Tryz.prog.funcNamed "jalousie/jalousielaw31.ScriptLines" = some 4 by kernel_rfl).symm.trans hf) |>.symm
  obtain rfl : fn = Tryz.f4 := (Option.some.inj (Tryz.func4.symm.trans hfn)).symm
  refine ⟨by kernel_rfl, fun j t ht => ?_⟩
  rw [Tryz.params4] at ht
  have hm : t ∈ [32, 9] := by simpa using Array.mem_of_getElem? ht
  have hall : ([32, 9].all fun u => !Tryz.prog.wantsStandIn u) = true := by kernel_rfl
  exact (show Tryz.prog.wantsStandIn t = false by simpa using List.all_eq_true.1 hall t hm)

end LinesCard

/-- ████ THE CARD ████ -/
theorem scriptLines_card : Rows.ScriptLinesCardSaid :=
  Claim7.holds_tied_plain_at .later [] _ _ _ _ LinesCard.said (fun _ h => by cases h) (by kernel_rfl) (fun _ h => by cases h) scriptLines_row_tie rfl ⟨rfl, rfl⟩ (by kernel_rfl) rfl LinesCard.plain (by kernel_rfl)
#print axioms scriptLines_card
end Go.Proofs.YtkgkhcfonlhphaaGreatDoor
