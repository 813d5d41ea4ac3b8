/- Texts of this work, laid together: symbolic execution over the model, contracts of the program's functions, what they come to; conditions: as each says. -/
import Derived.ChangeOld
import Derived.Below
import Derived.Carry
import Derived.RowKit
import Derived.Test.YtbcicjmepojlnaaPkZAJ
/- What an argument's type tells of its value: areas and numbers; what stays behind a call that turns nothing old; no condition. -/
namespace Go.Proofs.Ytbcicjmepojlnaa.Eng
open Go Go.RowKit Go.ChangeShapes Go.WideShapes
set_option linter.unusedVariables false
set_option autoImplicit false
variable {P : Program} {w : World} {r : Reach} {base : Nat}
theorem cell_int {u : TypeId} {v : Value} (hu : P.underlying u = some (.int .i64)) (h : Cell.okWide P w r base u v) : ∃ n, v = .int .i64 n ∧ In64 n := by
  simp only [Cell.okWide, hu, Cell.ok] at h
  cases v <;> simp_all
  rename_i k n
  obtain ⟨rfl, h⟩ := h
  have := h
  simp only [IntKind.has, IntKind.min, IntKind.max, IntKind.signed, IntKind.bits] at this
  exact this
end Go.Proofs.Ytbcicjmepojlnaa.Eng
/- What an argument's type tells of its value: bytes, bools, arrays of numbers; no condition. -/
namespace Go.Proofs.Ytbcicjmepojlnaa.Eng
open Go Go.RowKit Go.ChangeShapes Go.WideShapes
set_option linter.unusedVariables false
set_option autoImplicit false
variable {P : Program} {w : World} {r : Reach} {base : Nat}
theorem cell_u8 {u : TypeId} {v : Value} (hu : P.underlying u = some (.int .u8)) (h : Cell.okWide P w r base u v) : ∃ n, v = .int .u8 n ∧ 0 ≤ n ∧ n ≤ 255 := by
  simp only [Cell.okWide, hu, Cell.ok] at h
  cases v <;> simp_all
  rename_i k n
  obtain ⟨rfl, h⟩ := h
  have := h
  simp only [IntKind.has, IntKind.min, IntKind.max, IntKind.signed, IntKind.bits] at this
  exact this
theorem val_u8 {u : TypeId} {v : Value} (hu : P.underlying u = some (.int .u8)) (h : Value.okWide P w r base u v) : ∃ n, v = .int .u8 n ∧ 0 ≤ n ∧ n ≤ 255 := by
  simp only [Value.okWide, hu] at h
  exact cell_u8 hu h
end Go.Proofs.Ytbcicjmepojlnaa.Eng
