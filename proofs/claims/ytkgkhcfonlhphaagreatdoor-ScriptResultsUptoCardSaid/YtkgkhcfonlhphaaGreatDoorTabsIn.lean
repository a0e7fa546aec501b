/- What the rows' listed variables give: the tables that the contracts ask for. -/
import Derived.Test.YtkgkhcfonlhphaaGreatDoorReadIn
import Derived.Lib.LaidU8
import Derived.Lay
import Derived.MakeChecks
namespace Go.Proofs.YtkgkhcfonlhphaaGreatDoor
open Go.ChangeShapes Go.WideShapes Go.Deep Go.RowKit

/-- the eight variables that both rows list -/
abbrev laidList : List (String × DataW Unit) := Rows.scriptLinesRow.laid

theorem laid_plain (W : World) : laidMetH Tryz.prog laidList W = laidMet Tryz.prog laidList W := MakeChecks.laidMetH_plain _ _ _ (by kernel_rfl)

theorem first_data : (Rows.laid_unicode_utf8_first : DataW Unit) = Lib.firstData := by kernel_rfl
theorem accept_data : (Rows.laid_unicode_utf8_acceptRanges : DataW Unit) = Lib.acceptData := by kernel_rfl
theorem pow_data : (Rows.laid_internal_strconv_uint64pow10 : DataW Unit) = Lib.tabData .u64 Lib.pow10Tab := by kernel_rfl
theorem names_data : (Rows.laid_jalousie_op_names : DataW Unit) = .agg (kindNames.map fun s => .lit (.string s.data.toList)) := by kernel_rfl

theorem u8extra : U8Extra Tryz.prog Tryz.lays260_ren := ⟨by kernel_rfl, by kernel_rfl, by kernel_rfl, by kernel_rfl, by kernel_rfl, by kernel_rfl, by kernel_rfl⟩

theorem tabs_in {W : World} (h : laidMetH Tryz.prog laidList W) (hs : W.ShapedOpen Tryz.prog) : Tabs3 W := by
  rw [laid_plain] at h
  have r1 : Lib.VarReads Tryz.prog W "unicode/utf8.first" Lib.firstData := by rw [← first_data]; exact Lib.laidMet.reads h (by simp [laidList, Rows.scriptLinesRow])
  have r2 : Lib.VarReads Tryz.prog W "unicode/utf8.acceptRanges" Lib.acceptData := by rw [← accept_data]; exact Lib.laidMet.reads h (by simp [laidList, Rows.scriptLinesRow])
  have r3 : Lib.VarReads Tryz.prog W "internal/strconv.uint64pow10" (Lib.tabData .u64 Lib.pow10Tab) := by rw [← pow_data]; exact Lib.laidMet.reads h (by simp [laidList, Rows.scriptLinesRow])
  have r4 : Lib.VarReads Tryz.prog W "jalousie/op.names" (.agg (kindNames.map fun s => .lit (.string s.data.toList))) := by rw [← names_data]; exact Lib.laidMet.reads h (by simp [laidList, Rows.scriptLinesRow])
  have hpow : Pow10 W := by
    obtain ⟨g, t, cs, fuel, p, hg, hty, hvar, hd⟩ := r3
    obtain rfl := Option.some.inj ((show Tryz.prog.globalNamed "internal/strconv.uint64pow10" = some 3 by kernel_rfl).symm.trans hg)
    obtain rfl := Option.some.inj ((show (Tryz.prog.globals[3]?).map (·.type) = some 126 by kernel_rfl).symm.trans hty)
    have hcs := Lib.cells_of_tab Tryz.underlying126 Tryz.underlying55 (by kernel_rfl) (by kernel_rfl) hd
    show W.var? Tryz.prog "internal/strconv.uint64pow10" = _
    rw [hvar, ← hcs]
  have hnames : NamesAt W ∧ 0 < W.heap.size := by
    obtain ⟨g, t, cs, fuel, p, hg, hty, hvar, hd⟩ := r4
    obtain rfl := Option.some.inj ((show Tryz.prog.globalNamed "jalousie/op.names" = some 0 by kernel_rfl).symm.trans hg)
    obtain rfl := Option.some.inj ((show (Tryz.prog.globals[0]?).map (·.type) = some 91 by kernel_rfl).symm.trans hty)
    have hN : NamesAt W := by
      intro k s hk
      have hk17 : k < 17 := (List.getElem?_eq_some_iff.1 hk).1
      obtain ⟨fuel', d, q, hdi, he⟩ := Lib.array_elem Tryz.underlying91 hd k hk17
      rw [List.getElem?_map, hk] at hdi
      simp only [Option.map_some, Option.some.injEq] at hdi
      subst hdi
      rw [cells_str, Nat.mul_one] at he
      obtain ⟨s', h1, h2, _⟩ := DataW.trod_string Tryz.underlying9 he
      have h3 : s'.data.toList = s.data.toList := by
        have h4 := (Prod.mk.inj h2).1
        simp only [DataW.lit.injEq, Lit.string.injEq] at h4
        exact h4.symm
      have h5 : s' = s := by rw [← bytes_eta' s', h3, bytes_eta']
      rw [World.var?_cell hg hvar k]
      have h6 : ((cs.toList.drop k).take 1)[0]? = some (.string s) := by rw [h1, h5]; rfl
      simpa using h6
    exact ⟨hN, block_lt_of_cell (hN 0 _ rfl)⟩
  exact ⟨⟨⟨hpow, utf8Tabs_of_reads Tryz.lays260 u8extra r1 r2⟩, hnames.1, hnames.2⟩, Tryz.laysM145.s1_3 W hs⟩

end Go.Proofs.YtkgkhcfonlhphaaGreatDoor
