/- Layer 3: the package variables, out of what a row lists. -/
import Derived.Test.YtjmdkhjfjlodmaaDoorEk
import Derived.Test.YtjmdkhjfjlodmaaDoorRows
import Derived.Lib.LaidTab
import Derived.LaidSub
import Derived.Stop.LaidErr
namespace Go.Proofs.YtjmdkhjfjlodmaaDoor
open Go.RowKit
set_option linter.unusedVariables false
set_option linter.unusedSimpArgs false

def laid7 : List (String × DataW Unit) := [("math/bits.deBruijn32tab", Rows.laid_math_bits_deBruijn32tab), ("math/bits.deBruijn64tab", Rows.laid_math_bits_deBruijn64tab), ("internal/strconv.uint64pow10", Rows.laid_internal_strconv_uint64pow10), ("unicode/utf8.acceptRanges", Rows.laid_unicode_utf8_acceptRanges), ("strconv.ErrRange", Rows.laid_strconv_ErrRange), ("strconv.ErrSyntax", Rows.laid_strconv_ErrSyntax), ("unicode/utf8.first", Rows.laid_unicode_utf8_first)]
theorem laid_pow {W : World} (h : laidMet Tryd.prog laid7 W) : laidMet Tryd.prog [("internal/strconv.uint64pow10", Rows.laid_internal_strconv_uint64pow10)] W := by
  have := laidMet.filter (fun x => x.1 == "internal/strconv.uint64pow10") h
  exact this
theorem laid_syn {W : World} (h : laidMet Tryd.prog laid7 W) : laidMet Tryd.prog [("strconv.ErrSyntax", Rows.laid_strconv_ErrSyntax)] W := by
  have := laidMet.filter (fun x => x.1 == "strconv.ErrSyntax") h
  exact this
theorem laid_rng {W : World} (h : laidMet Tryd.prog laid7 W) : laidMet Tryd.prog [("strconv.ErrRange", Rows.laid_strconv_ErrRange)] W := by
  have := laidMet.filter (fun x => x.1 == "strconv.ErrRange") h
  exact this
theorem d_star : "*" ++ "errors.errorString" = "*errors.errorString" := by decide
theorem d_row87 (u : TypeId) (h : Tryd.prog.typeName? 3 u = some "*errors.errorString") : u = 87 :=
  typeName_ptr_named (nm := "errors.errorString") (by rw [d_star]; kernel_rfl) (by kernel_rfl) (by decide) u (by rw [d_star]; exact h)
theorem syn_var {W : World} (h : laidMet Tryd.prog laid7 W) : ∃ (tp : TypeId) (p : Value), W.var? Tryd.prog "strconv.ErrSyntax" = some #[.iface tp p] := by
  obtain ⟨a, _, hv, _⟩ := laid_sentinel (g := 0) (ti := 52) (laid_syn h) (by kernel_rfl) (by kernel_rfl) Tryd.underlying52 d_row87 Tryd.underlying87 Tryd.underlying89 rfl rfl Tryd.underlying9 (by kernel_rfl) (by kernel_rfl)
  exact ⟨_, _, hv⟩
theorem rng_var {W : World} (h : laidMet Tryd.prog laid7 W) : ∃ (tp : TypeId) (p : Value), W.var? Tryd.prog "strconv.ErrRange" = some #[.iface tp p] := by
  obtain ⟨a, _, hv, _⟩ := laid_sentinel (g := 1) (ti := 52) (laid_rng h) (by kernel_rfl) (by kernel_rfl) Tryd.underlying52 d_row87 Tryd.underlying87 Tryd.underlying89 rfl rfl Tryd.underlying9 (by kernel_rfl) (by kernel_rfl)
  exact ⟨_, _, hv⟩
theorem pow_tab {W : World} (h : laidMet Tryd.prog laid7 W) : Lib.TabIs Tryd.prog W "internal/strconv.uint64pow10" .u64 Lib.pow10Tab :=
  Lib.tabIs_of_head (g := 3) (t := 91) (e := 41) (n := 20) (by kernel_rfl) (by kernel_rfl) Tryd.underlying91 Tryd.underlying41 (by kernel_rfl) (by kernel_rfl) (laid_pow h)
end Go.Proofs.YtjmdkhjfjlodmaaDoor
