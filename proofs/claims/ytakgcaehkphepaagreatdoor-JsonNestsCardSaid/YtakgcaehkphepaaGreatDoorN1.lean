/- What the rows' condition on package-level variables gives the walks. -/
import Derived.Test.YtakgcaehkphepaaGreatDoorM9
import Derived.Test.YtakgcaehkphepaaGreatDoorRows
import Derived.ChangeSame
import Derived.ChangeVars
import Derived.JoinedOf
import Derived.RowKit
import Derived.RowKitTokens
import Derived.LaidLaws
import Derived.LaidHandle
import Derived.LaidMore
import Derived.PinnedBridge
import Derived.Stop.Joined
import Derived.Lib.LaidU8
import Derived.Lib.LaidU8T
namespace Go.Proofs.YtakgcaehkphepaaGreatDoor
open Go.ChangeShapes Go.WideShapes Go.RowKit
set_option linter.unusedVariables false

abbrev laidL : List (String × DataW Unit) := Rows.jsonRightsRow.laid
def laidP : List (String × DataW Unit) := [("math/bits.deBruijn32tab", Rows.laid_math_bits_deBruijn32tab), ("math/bits.deBruijn64tab", Rows.laid_math_bits_deBruijn64tab), ("internal/strconv.uint64pow10", Rows.laid_internal_strconv_uint64pow10), ("unicode/utf8.acceptRanges", Rows.laid_unicode_utf8_acceptRanges), ("strconv.ErrRange", Rows.laid_strconv_ErrRange), ("strconv.ErrSyntax", Rows.laid_strconv_ErrSyntax), ("diaeresis/json.errJson", Rows.laid_diaeresis_json_errJson), ("unicode/utf8.first", Rows.laid_unicode_utf8_first)]
def laidE : List (String × DataW Unit) := [("errors.errorType", Rows.laid_errors_errorType)]
theorem filt1 : laidL.filter (fun x => x.2.handleName?.isNone) = laidP := by kernel_rfl
theorem filt2 : laidL.filter (fun x => x.2.handleName?.isSome) = laidE := by kernel_rfl
theorem laid_parts {W : World} (h : laidMetH Tryz.prog laidL W) : laidMet Tryz.prog laidP W ∧ handlesMet Tryz.prog laidE W := by
  unfold laidMetH at h
  rw [filt1, filt2] at h
  exact h
theorem La.et : Tryz.prog.globalNamed "errors.errorType" = some 3 := by kernel_rfl
theorem La.rt : (Tryz.prog.cutTypes.find? (·.1 == "internal/reflectlite.rtype")).map (·.2) = some 141 := by kernel_rfl
theorem La.size : Tryz.prog.types.size = 227 := by kernel_rfl
theorem La.oneRow : ((List.range 227).filter fun t => Tryz.prog.rowNamed t [101, 114, 114, 111, 114]) = [49] := by kernel_rfl
theorem et_of {W : World} (h : handlesMet Tryz.prog laidE W) : EtAt W := by
  obtain ⟨name, u, ty, e1, e2, e3, e4, e5⟩ := h _ (List.mem_singleton.2 rfl)
  have en : name = [101, 114, 114, 111, 114] := (Option.some.inj e1).symm
  subst en
  obtain rfl := Option.some.inj (La.rt.symm.trans e2)
  have hm : ty ∈ (List.range 227).filter fun t => Tryz.prog.rowNamed t [101, 114, 114, 111, 114] := List.mem_filter.2 ⟨List.mem_range.2 (by rw [← La.size]; exact e3), e4⟩
  rw [La.oneRow] at hm
  obtain rfl := List.mem_singleton.1 hm
  have hh : typeHandle Tryz.prog 49 = .pointer (some ⟨10, 49, none⟩) := by kernel_rfl
  rw [hh] at e5
  unfold EtAt
  simpa using World.var?_cell La.et e5 0
theorem La.g0 : Tryz.prog.globalNamed "diaeresis/json.errJson" = some 0 := by kernel_rfl
theorem La.g4 : Tryz.prog.globalNamed "internal/strconv.uint64pow10" = some 4 := by kernel_rfl
theorem La.g5 : Tryz.prog.globalNamed "strconv.ErrSyntax" = some 5 := by kernel_rfl
theorem La.g6 : Tryz.prog.globalNamed "strconv.ErrRange" = some 6 := by kernel_rfl
theorem La.g9 : Tryz.prog.globalNamed "math/bits.deBruijn64tab" = some 9 := by kernel_rfl
theorem La.y0 : (Tryz.prog.globals[0]?).map (·.type) = some 49 := by kernel_rfl
theorem La.y5 : (Tryz.prog.globals[5]?).map (·.type) = some 49 := by kernel_rfl
theorem La.y6 : (Tryz.prog.globals[6]?).map (·.type) = some 49 := by kernel_rfl
theorem La.star : "*" ++ "errors.errorString" = "*errors.errorString" := by decide
theorem La.row (u : TypeId) (h : Tryz.prog.typeName? 3 u = some "*errors.errorString") : u = 195 :=
  typeName_ptr_named (nm := "errors.errorString") (by rw [La.star]; kernel_rfl) (by kernel_rfl) (by decide) u (by rw [La.star]; exact h)
/-- A variable that holds an error: its cell. -/
theorem err_cell {W : World} {n : String} {g : Nat} {nm : String} {d : DataW Unit} (hg : Tryz.prog.globalNamed n = some g) (hy : (Tryz.prog.globals[g]?).map (·.type) = some 49) (h : Lib.VarReads Tryz.prog W n (.iface nm d)) :
    ∃ u v, W.cell? ⟨g, 0, none⟩ = some (.iface u v) ∧ Tryz.prog.typeName? 3 u = some nm := by
  obtain ⟨g', t, cs, fuel, p, hg', hty, hvar, hd⟩ := h
  obtain rfl := Option.some.inj (hg.symm.trans hg')
  obtain rfl := Option.some.inj (hy.symm.trans hty)
  obtain ⟨f, u, v, hcs, hn, _⟩ := iface_of_trod Tryz.underlying49 hd
  refine ⟨u, v, ?_, hn⟩
  have := World.var?_cell hg hvar 0
  rw [Array.eq_one_of_toList hcs] at this
  simpa using this
theorem pow_eq : (Rows.laid_internal_strconv_uint64pow10 : DataW Unit) = Lib.tabData .u64 Lib.pow10Tab := by kernel_rfl
theorem acc_eq : (Rows.laid_unicode_utf8_acceptRanges : DataW Unit) = Lib.acceptData := by kernel_rfl
theorem first_eq : (Rows.laid_unicode_utf8_first : DataW Unit) = Lib.firstData := Pinned.utf8First_eq
theorem gl_of_laid {W : World} (h : laidMetH Tryz.prog laidL W) : ∃ p, Gl p W := by
  obtain ⟨h1, h2⟩ := laid_parts h
  have r : ∀ {n d}, (n, d) ∈ laidP → Lib.VarReads Tryz.prog W n d := fun hm => Lib.laidMet.reads h1 hm
  obtain ⟨u, v, e0, n0⟩ := err_cell La.g0 La.y0 (r (.tail _ (.tail _ (.tail _ (.tail _ (.tail _ (.tail _ (.head _))))))))
  obtain rfl := La.row u n0
  obtain ⟨u5, v5, e5, _⟩ := err_cell La.g5 La.y5 (r (.tail _ (.tail _ (.tail _ (.tail _ (.tail _ (.head _)))))))
  obtain ⟨u6, v6, e6, _⟩ := err_cell La.g6 La.y6 (r (.tail _ (.tail _ (.tail _ (.tail _ (.head _))))))
  have hp : Lib.VarReads Tryz.prog W "internal/strconv.uint64pow10" (Lib.tabData .u64 Lib.pow10Tab) := pow_eq ▸ r (.tail _ (.tail _ (.head _)))
  have ha : Lib.VarReads Tryz.prog W "unicode/utf8.acceptRanges" Lib.acceptData := acc_eq ▸ r (.tail _ (.tail _ (.tail _ (.head _))))
  have hf : Lib.VarReads Tryz.prog W "unicode/utf8.first" Lib.firstData := first_eq ▸ r (.tail _ (.tail _ (.tail _ (.tail _ (.tail _ (.tail _ (.tail _ (.head _))))))))
  have hd := r (n := "math/bits.deBruijn64tab") (.tail _ (.head _))
  refine ⟨v, et_of h2, e0, ?_, ?_, ⟨_, _, e5⟩, ⟨_, _, e6⟩, ?_⟩
  · exact utf8Tabs_of_readsT (U8Types.of196 Tryz.lays196) ⟨by kernel_rfl, by kernel_rfl, by kernel_rfl, by kernel_rfl, by kernel_rfl, by kernel_rfl, by kernel_rfl⟩ hf ha
  · obtain ⟨g', t', cs, fuel, p, hg', ht', hvar, hd⟩ := hp
    obtain rfl := Option.some.inj (La.g4.symm.trans hg')
    obtain rfl := Option.some.inj ((show (Tryz.prog.globals[4]?).map (·.type) = some 178 by kernel_rfl).symm.trans ht')
    unfold Lib.TabIs
    rw [hvar, ← Lib.cells_of_tab (n := 20) (e := 125) (by kernel_rfl) (by kernel_rfl) (by kernel_rfl) (by kernel_rfl) hd]
  · obtain ⟨g', t', cs, fuel, p, hg', ht', hvar, hd⟩ := hd
    obtain rfl := Option.some.inj (La.g9.symm.trans hg')
    intro e
    unfold World.var? at hvar
    rw [La.g9] at hvar
    simp [e] at hvar
end Go.Proofs.YtakgcaehkphepaaGreatDoor
