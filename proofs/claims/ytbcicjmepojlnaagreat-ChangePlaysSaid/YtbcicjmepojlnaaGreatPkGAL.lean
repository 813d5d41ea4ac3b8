/- Texts of this work, laid together: symbolic execution over the model, contracts of the program's functions, what they come to; conditions: as each says. -/
import Derived.ChangeOld
import Derived.Below
import Derived.Carry
import Derived.RowKit
import Derived.Test.YtbcicjmepojlnaaGreatPkGAI
/- What an argument's type tells of its value: areas and numbers; what stays behind a call that turns nothing old; no condition. -/
namespace Go.Proofs.YtbcicjmepojlnaaGreat.Eng
open Go Go.RowKit Go.ChangeShapes Go.WideShapes
set_option linter.unusedVariables false
set_option autoImplicit false
variable {P : Program} {w : World} {r : Reach} {base : Nat}
end Go.Proofs.YtbcicjmepojlnaaGreat.Eng
/- What an argument's type tells of its value: bytes, bools, arrays of numbers; no condition. -/
namespace Go.Proofs.YtbcicjmepojlnaaGreat.Eng
open Go Go.RowKit Go.ChangeShapes Go.WideShapes
set_option linter.unusedVariables false
set_option autoImplicit false
variable {P : Program} {w : World} {r : Reach} {base : Nat}
end Go.Proofs.YtbcicjmepojlnaaGreat.Eng
