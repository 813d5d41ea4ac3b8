/- Texts of this work, laid together: symbolic execution over the model, contracts of the program's functions, what they come to; conditions: as each says. -/
import Derived.Test.YtbcicjmepojlnaaPkKKC
import Derived.Test.YtbcicjmepojlnaaPkKKD
import Derived.Test.YtbcicjmepojlnaaPkKKJ
/- What list.Covered and list.Pages come to, step by step; no condition but those typed. -/
namespace Go.Proofs.Ytbcicjmepojlnaa.Eng
open Go Go.RowKit
set_option autoImplicit false
set_option linter.unusedSimpArgs false
set_option linter.unusedVariables false
def atW (W : List Ar) (a0 : Int) : Nat → Int
  | 0 => a0
  | i + 1 => (nthA W i).e
theorem drop_cons {W : List Ar} {i : Nat} (h : i < W.length) : W.drop i = nthA W i :: W.drop (i + 1) := by
  have h2 := nthA_get h
  rw [List.getElem?_eq_getElem h] at h2
  injection h2 with h2
  rw [List.drop_eq_getElem_cons h, h2]
end Go.Proofs.Ytbcicjmepojlnaa.Eng
/- Contracts of functions (printed by genx.py of this work): what each hands back; condition: as its 'hside' says. -/
namespace Go.Proofs.Ytbcicjmepojlnaa.Eng
open Go Go.RowKit
set_option linter.unusedVariables false
set_option linter.unusedSimpArgs false
end Go.Proofs.Ytbcicjmepojlnaa.Eng
/- Protecting and faults, in plain words; no condition but those typed. -/
namespace Go.Proofs.Ytbcicjmepojlnaa.Eng
open Go Go.RowKit
set_option autoImplicit false
set_option linter.unusedSimpArgs false
set_option linter.unusedVariables false
end Go.Proofs.Ytbcicjmepojlnaa.Eng
