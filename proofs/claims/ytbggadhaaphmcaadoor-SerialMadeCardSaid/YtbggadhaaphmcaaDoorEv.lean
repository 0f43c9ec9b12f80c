/- From the row's list of variables to what the walks ask of a world. -/
import Derived.Test.YtbggadhaaphmcaaDoorRows
import Derived.Test.YtbggadhaaphmcaaDoorNu
import Derived.Lib.LaidTab
import Derived.Stop.LaidErr
namespace Go.Proofs.YtbggadhaaphmcaaDoor
open Go Go.RowKit

theorem gES : Tryd.prog.globalNamed "strconv.ErrSyntax" = some 0 := by kernel_rfl
theorem gER : Tryd.prog.globalNamed "strconv.ErrRange" = some 1 := by kernel_rfl
theorem gPow : Tryd.prog.globalNamed "internal/strconv.uint64pow10" = some 2 := by kernel_rfl
theorem star : "*" ++ "errors.errorString" = "*errors.errorString" := by decide
theorem row175 (u : TypeId) (h : Tryd.prog.typeName? 3 u = some "*errors.errorString") : u = 175 :=
  typeName_ptr_named (nm := "errors.errorString") (by rw [star]; kernel_rfl) (by kernel_rfl) (by decide) u (by rw [star]; exact h)
set_option maxRecDepth 100000 in
theorem env_of {W : World} (hL : laidMet Tryd.prog [("math/bits.deBruijn32tab", Rows.laid_math_bits_deBruijn32tab), ("math/bits.deBruijn64tab", Rows.laid_math_bits_deBruijn64tab), ("internal/strconv.uint64pow10", Rows.laid_internal_strconv_uint64pow10), ("strconv.ErrRange", Rows.laid_strconv_ErrRange), ("strconv.ErrSyntax", Rows.laid_strconv_ErrSyntax)] W) : Env W := by
  have h2 := hL.tail.tail
  have h3 := h2.tail
  have h4 := h3.tail
  have hP : laidMet Tryd.prog (("internal/strconv.uint64pow10", Go.Lib.tabData .u64 Go.Lib.pow10Tab) :: [("strconv.ErrRange", Rows.laid_strconv_ErrRange), ("strconv.ErrSyntax", Rows.laid_strconv_ErrSyntax)]) W := h2
  refine ⟨Go.Lib.tabIs_of_head gPow (show (Tryd.prog.globals[2]?).map (·.type) = some 179 by kernel_rfl) Tryd.underlying179 Tryd.underlying156 (by kernel_rfl) (by kernel_rfl) hP, ?_, ?_⟩
  · obtain ⟨a0, s0, hv0, -, -, -⟩ := laid_sentinel h4 gES (show (Tryd.prog.globals[0]?).map (·.type) = some 108 by kernel_rfl) Tryd.underlying108 row175 Tryd.underlying175 Tryd.underlying177 rfl rfl Tryd.underlying9 (by kernel_rfl) (by kernel_rfl)
    exact ⟨_, _, hv0⟩
  · obtain ⟨a0, s0, hv0, -, -, -⟩ := laid_sentinel h3 gER (show (Tryd.prog.globals[1]?).map (·.type) = some 108 by kernel_rfl) Tryd.underlying108 row175 Tryd.underlying175 Tryd.underlying177 rfl rfl Tryd.underlying9 (by kernel_rfl) (by kernel_rfl)
    exact ⟨_, _, hv0⟩
end Go.Proofs.YtbggadhaaphmcaaDoor
