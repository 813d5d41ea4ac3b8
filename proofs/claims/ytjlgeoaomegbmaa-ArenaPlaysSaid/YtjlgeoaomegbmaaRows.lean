/-
  No cell of these rows narrows 'for every input' (looked for: loops, veiled, ifaces, maps, wideKeys, modest, calm, conditions, laid).
  DERIVED. THE GIVEN ROWS OF THIS SEAT. 15 by the template 'for every input the law returns true; each argument reads behind the call as it read before'; 0 by the template 'total and deterministic' (their statements: YtjlgeoaomegbmaaTotals.lean).
  GIVEN WITH THE SEED: the statements are not yours to turn. If you find one false, say at which input.
  Laid BY PROGRAM, IN A SANDBOX (cutbox-rows.mjs): the forced cells as the released guide's own fill.sh prints them over the translation decaf41aeac86e16… (all of the seat's roots in one cut). By AI agents, Wed Nov 11 2026. No macro, syntax, notation, axiom, sorry.
-/
import Derived.Test.YtjlgeoaomegbmaaChecked
import GoSem.Claim
import GoSem.ClaimJoined
import GoSem.ClaimMapViews
import Derived.JoinedTies
import Derived.KernelRfl
namespace Go.Proofs.Ytjlgeoaomegbmaa
/- THE CELL 'sum', in the pinned program and in every row, IS THE sha256 OF THE DUMP (.gsa) THAT YtjlgeoaomegbmaaProg.lean LOADS. Nothing in Lean hashes anything: it is a label: what it is worth is what the hold of that sum in a sandbox is worth. -/
noncomputable def Try.pinned : Pinned := { name := "ytjlgeoaomegbmaa", sum := "decaf41aeac86e16387d33c171c623f1edc7322f1d4ca91c658c778ca839738b", checked := Try.checked }
namespace Rows
def none {H : Type} : Left H := { results := [], args := [] }

/-- 'samaralaw09.CheckSizes': WHATEVER THE INPUT: true; the input reads as it did. -/
def checkSizesSpec : ChangeSpec := { name := "checkSizes", fn := fun _ => fun
  | [d] => { results := [.lit (.bool true)], args := [d] }
  | _ => none }
def checkSizesRow : OpenClaim := { program := "ytjlgeoaomegbmaa", sum := "decaf41aeac86e16387d33c171c623f1edc7322f1d4ca91c658c778ca839738b", func := "samara/samaralaw09.CheckSizes", spec := "checkSizes", apart := false }
def CheckSizesSaid : Prop := checkSizesRow.holds Try.pinned (OpenSpec.ofChange checkSizesSpec)

/-- ITS FALSE NEIGHBOUR: 'it returns false'. Refute it at one input. -/
def checkSizesWrong : ChangeSpec := { name := "checkSizes", fn := fun _ => fun
  | [d] => { results := [.lit (.bool false)], args := [d] }
  | _ => none }
def CheckSizesWrongFalsely : Prop := checkSizesRow.holds Try.pinned (OpenSpec.ofChange checkSizesWrong)

/-- 'samaralaw06.AreaMay': WHATEVER THE INPUT: true; the input reads as it did. -/
def areaMaySpec : ChangeSpec := { name := "areaMay", fn := fun _ => fun
  | [d1, d2] => { results := [.lit (.bool true)], args := [d1, d2] }
  | _ => none }
def areaMayRow : OpenClaim := { program := "ytjlgeoaomegbmaa", sum := "decaf41aeac86e16387d33c171c623f1edc7322f1d4ca91c658c778ca839738b", func := "samara/samaralaw06.AreaMay", spec := "areaMay", apart := false }
def AreaMaySaid : Prop := areaMayRow.holds Try.pinned (OpenSpec.ofChange areaMaySpec)

/-- ITS FALSE NEIGHBOUR: 'it returns false'. Refute it at one input. -/
def areaMayWrong : ChangeSpec := { name := "areaMay", fn := fun _ => fun
  | [d1, d2] => { results := [.lit (.bool false)], args := [d1, d2] }
  | _ => none }
def AreaMayWrongFalsely : Prop := areaMayRow.holds Try.pinned (OpenSpec.ofChange areaMayWrong)

/-- 'samaralaw09.CheckFlags': WHATEVER THE INPUT: true; the input reads as it did. -/
def checkFlagsSpec : ChangeSpec := { name := "checkFlags", fn := fun _ => fun
  | [d1, d2, d3] => { results := [.lit (.bool true)], args := [d1, d2, d3] }
  | _ => none }
def checkFlagsRow : OpenClaim := { program := "ytjlgeoaomegbmaa", sum := "decaf41aeac86e16387d33c171c623f1edc7322f1d4ca91c658c778ca839738b", func := "samara/samaralaw09.CheckFlags", spec := "checkFlags", apart := false }
def CheckFlagsSaid : Prop := checkFlagsRow.holds Try.pinned (OpenSpec.ofChange checkFlagsSpec)

/-- ITS FALSE NEIGHBOUR: 'it returns false'. Refute it at one input. -/
def checkFlagsWrong : ChangeSpec := { name := "checkFlags", fn := fun _ => fun
  | [d1, d2, d3] => { results := [.lit (.bool false)], args := [d1, d2, d3] }
  | _ => none }
def CheckFlagsWrongFalsely : Prop := checkFlagsRow.holds Try.pinned (OpenSpec.ofChange checkFlagsWrong)

/-- 'samaralaw09.CheckBackings': WHATEVER THE INPUT: true; the input reads as it did. -/
def checkBackingsSpec : ChangeSpec := { name := "checkBackings", fn := fun _ => fun
  | [d1, d2, d3] => { results := [.lit (.bool true)], args := [d1, d2, d3] }
  | _ => none }
def checkBackingsRow : OpenClaim := { program := "ytjlgeoaomegbmaa", sum := "decaf41aeac86e16387d33c171c623f1edc7322f1d4ca91c658c778ca839738b", func := "samara/samaralaw09.CheckBackings", spec := "checkBackings", apart := false }
def CheckBackingsSaid : Prop := checkBackingsRow.holds Try.pinned (OpenSpec.ofChange checkBackingsSpec)

/-- ITS FALSE NEIGHBOUR: 'it returns false'. Refute it at one input. -/
def checkBackingsWrong : ChangeSpec := { name := "checkBackings", fn := fun _ => fun
  | [d1, d2, d3] => { results := [.lit (.bool false)], args := [d1, d2, d3] }
  | _ => none }
def CheckBackingsWrongFalsely : Prop := checkBackingsRow.holds Try.pinned (OpenSpec.ofChange checkBackingsWrong)

/-- 'samaralaw09.CheckAgain': WHATEVER THE INPUT: true; the input reads as it did. -/
def checkAgainSpec : ChangeSpec := { name := "checkAgain", fn := fun _ => fun
  | [d1, d2] => { results := [.lit (.bool true)], args := [d1, d2] }
  | _ => none }
def checkAgainRow : OpenClaim := { program := "ytjlgeoaomegbmaa", sum := "decaf41aeac86e16387d33c171c623f1edc7322f1d4ca91c658c778ca839738b", func := "samara/samaralaw09.CheckAgain", spec := "checkAgain", apart := false }
def CheckAgainSaid : Prop := checkAgainRow.holds Try.pinned (OpenSpec.ofChange checkAgainSpec)

/-- ITS FALSE NEIGHBOUR: 'it returns false'. Refute it at one input. -/
def checkAgainWrong : ChangeSpec := { name := "checkAgain", fn := fun _ => fun
  | [d1, d2] => { results := [.lit (.bool false)], args := [d1, d2] }
  | _ => none }
def CheckAgainWrongFalsely : Prop := checkAgainRow.holds Try.pinned (OpenSpec.ofChange checkAgainWrong)

/-- 'samaralaw09.CheckRanges': WHATEVER THE INPUT: true; the input reads as it did. -/
def checkRangesSpec : ChangeSpec := { name := "checkRanges", fn := fun _ => fun
  | [d1, d2] => { results := [.lit (.bool true)], args := [d1, d2] }
  | _ => none }
def checkRangesRow : OpenClaim := { program := "ytjlgeoaomegbmaa", sum := "decaf41aeac86e16387d33c171c623f1edc7322f1d4ca91c658c778ca839738b", func := "samara/samaralaw09.CheckRanges", spec := "checkRanges", apart := false }
def CheckRangesSaid : Prop := checkRangesRow.holds Try.pinned (OpenSpec.ofChange checkRangesSpec)

/-- ITS FALSE NEIGHBOUR: 'it returns false'. Refute it at one input. -/
def checkRangesWrong : ChangeSpec := { name := "checkRanges", fn := fun _ => fun
  | [d1, d2] => { results := [.lit (.bool false)], args := [d1, d2] }
  | _ => none }
def CheckRangesWrongFalsely : Prop := checkRangesRow.holds Try.pinned (OpenSpec.ofChange checkRangesWrong)

/-- 'samaralaw09.CheckCovers': WHATEVER THE INPUT: true; the input reads as it did. -/
def checkCoversSpec : ChangeSpec := { name := "checkCovers", fn := fun _ => fun
  | [d1, d2] => { results := [.lit (.bool true)], args := [d1, d2] }
  | _ => none }
def checkCoversRow : OpenClaim := { program := "ytjlgeoaomegbmaa", sum := "decaf41aeac86e16387d33c171c623f1edc7322f1d4ca91c658c778ca839738b", func := "samara/samaralaw09.CheckCovers", spec := "checkCovers", apart := false }
def CheckCoversSaid : Prop := checkCoversRow.holds Try.pinned (OpenSpec.ofChange checkCoversSpec)

/-- ITS FALSE NEIGHBOUR: 'it returns false'. Refute it at one input. -/
def checkCoversWrong : ChangeSpec := { name := "checkCovers", fn := fun _ => fun
  | [d1, d2] => { results := [.lit (.bool false)], args := [d1, d2] }
  | _ => none }
def CheckCoversWrongFalsely : Prop := checkCoversRow.holds Try.pinned (OpenSpec.ofChange checkCoversWrong)

/-- 'samaralaw06.AreaForms': WHATEVER THE INPUT: true; the input reads as it did. -/
def areaFormsSpec : ChangeSpec := { name := "areaForms", fn := fun _ => fun
  | [d1, d2] => { results := [.lit (.bool true)], args := [d1, d2] }
  | _ => none }
def areaFormsRow : OpenClaim := { program := "ytjlgeoaomegbmaa", sum := "decaf41aeac86e16387d33c171c623f1edc7322f1d4ca91c658c778ca839738b", func := "samara/samaralaw06.AreaForms", spec := "areaForms", apart := false }
def AreaFormsSaid : Prop := areaFormsRow.holds Try.pinned (OpenSpec.ofChange areaFormsSpec)

/-- ITS FALSE NEIGHBOUR: 'it returns false'. Refute it at one input. -/
def areaFormsWrong : ChangeSpec := { name := "areaForms", fn := fun _ => fun
  | [d1, d2] => { results := [.lit (.bool false)], args := [d1, d2] }
  | _ => none }
def AreaFormsWrongFalsely : Prop := areaFormsRow.holds Try.pinned (OpenSpec.ofChange areaFormsWrong)

/-- 'samaralaw06.AreaGoes': WHATEVER THE INPUT: true; the input reads as it did. -/
def areaGoesSpec : ChangeSpec := { name := "areaGoes", fn := fun _ => fun
  | [d1, d2] => { results := [.lit (.bool true)], args := [d1, d2] }
  | _ => none }
def areaGoesRow : OpenClaim := { program := "ytjlgeoaomegbmaa", sum := "decaf41aeac86e16387d33c171c623f1edc7322f1d4ca91c658c778ca839738b", func := "samara/samaralaw06.AreaGoes", spec := "areaGoes", apart := false }
def AreaGoesSaid : Prop := areaGoesRow.holds Try.pinned (OpenSpec.ofChange areaGoesSpec)

/-- ITS FALSE NEIGHBOUR: 'it returns false'. Refute it at one input. -/
def areaGoesWrong : ChangeSpec := { name := "areaGoes", fn := fun _ => fun
  | [d1, d2] => { results := [.lit (.bool false)], args := [d1, d2] }
  | _ => none }
def AreaGoesWrongFalsely : Prop := areaGoesRow.holds Try.pinned (OpenSpec.ofChange areaGoesWrong)

/-- 'samaralaw02.ArenaCells': WHATEVER THE INPUT: true; the input reads as it did. -/
def arenaCellsSpec : ChangeSpec := { name := "arenaCells", fn := fun _ => fun
  | [d1, d2] => { results := [.lit (.bool true)], args := [d1, d2] }
  | _ => none }
def arenaCellsRow : OpenClaim := { program := "ytjlgeoaomegbmaa", sum := "decaf41aeac86e16387d33c171c623f1edc7322f1d4ca91c658c778ca839738b", func := "samara/samaralaw02.ArenaCells", spec := "arenaCells", apart := false }
def ArenaCellsSaid : Prop := arenaCellsRow.holds Try.pinned (OpenSpec.ofChange arenaCellsSpec)

/-- ITS FALSE NEIGHBOUR: 'it returns false'. Refute it at one input. -/
def arenaCellsWrong : ChangeSpec := { name := "arenaCells", fn := fun _ => fun
  | [d1, d2] => { results := [.lit (.bool false)], args := [d1, d2] }
  | _ => none }
def ArenaCellsWrongFalsely : Prop := arenaCellsRow.holds Try.pinned (OpenSpec.ofChange arenaCellsWrong)

/-- 'samaralaw02.ArenaApart': WHATEVER THE INPUT: true; the input reads as it did. -/
def arenaApartSpec : ChangeSpec := { name := "arenaApart", fn := fun _ => fun
  | [d1, d2] => { results := [.lit (.bool true)], args := [d1, d2] }
  | _ => none }
def arenaApartRow : OpenClaim := { program := "ytjlgeoaomegbmaa", sum := "decaf41aeac86e16387d33c171c623f1edc7322f1d4ca91c658c778ca839738b", func := "samara/samaralaw02.ArenaApart", spec := "arenaApart", apart := false }
def ArenaApartSaid : Prop := arenaApartRow.holds Try.pinned (OpenSpec.ofChange arenaApartSpec)

/-- ITS FALSE NEIGHBOUR: 'it returns false'. Refute it at one input. -/
def arenaApartWrong : ChangeSpec := { name := "arenaApart", fn := fun _ => fun
  | [d1, d2] => { results := [.lit (.bool false)], args := [d1, d2] }
  | _ => none }
def ArenaApartWrongFalsely : Prop := arenaApartRow.holds Try.pinned (OpenSpec.ofChange arenaApartWrong)

/-- 'samaralaw06.AreaNested': WHATEVER THE INPUT: true; the input reads as it did. -/
def areaNestedSpec : ChangeSpec := { name := "areaNested", fn := fun _ => fun
  | [d1, d2] => { results := [.lit (.bool true)], args := [d1, d2] }
  | _ => none }
def areaNestedRow : OpenClaim := { program := "ytjlgeoaomegbmaa", sum := "decaf41aeac86e16387d33c171c623f1edc7322f1d4ca91c658c778ca839738b", func := "samara/samaralaw06.AreaNested", spec := "areaNested", apart := false }
def AreaNestedSaid : Prop := areaNestedRow.holds Try.pinned (OpenSpec.ofChange areaNestedSpec)

/-- ITS FALSE NEIGHBOUR: 'it returns false'. Refute it at one input. -/
def areaNestedWrong : ChangeSpec := { name := "areaNested", fn := fun _ => fun
  | [d1, d2] => { results := [.lit (.bool false)], args := [d1, d2] }
  | _ => none }
def AreaNestedWrongFalsely : Prop := areaNestedRow.holds Try.pinned (OpenSpec.ofChange areaNestedWrong)

/-- 'samaralaw02.ArenaOnce': WHATEVER THE INPUT: true; the input reads as it did. -/
def arenaOnceSpec : ChangeSpec := { name := "arenaOnce", fn := fun _ => fun
  | [d1, d2] => { results := [.lit (.bool true)], args := [d1, d2] }
  | _ => none }
def arenaOnceRow : OpenClaim := { program := "ytjlgeoaomegbmaa", sum := "decaf41aeac86e16387d33c171c623f1edc7322f1d4ca91c658c778ca839738b", func := "samara/samaralaw02.ArenaOnce", spec := "arenaOnce", apart := false }
def ArenaOnceSaid : Prop := arenaOnceRow.holds Try.pinned (OpenSpec.ofChange arenaOnceSpec)

/-- ITS FALSE NEIGHBOUR: 'it returns false'. Refute it at one input. -/
def arenaOnceWrong : ChangeSpec := { name := "arenaOnce", fn := fun _ => fun
  | [d1, d2] => { results := [.lit (.bool false)], args := [d1, d2] }
  | _ => none }
def ArenaOnceWrongFalsely : Prop := arenaOnceRow.holds Try.pinned (OpenSpec.ofChange arenaOnceWrong)

/-- 'samaralaw02.ArenaPlays': WHATEVER THE INPUT: true; the input reads as it did. -/
def arenaPlaysSpec : ChangeSpec := { name := "arenaPlays", fn := fun _ => fun
  | [d1, d2] => { results := [.lit (.bool true)], args := [d1, d2] }
  | _ => none }
def arenaPlaysRow : OpenClaim := { program := "ytjlgeoaomegbmaa", sum := "decaf41aeac86e16387d33c171c623f1edc7322f1d4ca91c658c778ca839738b", func := "samara/samaralaw02.ArenaPlays", spec := "arenaPlays", apart := false }
def ArenaPlaysSaid : Prop := arenaPlaysRow.holds Try.pinned (OpenSpec.ofChange arenaPlaysSpec)

/-- ITS FALSE NEIGHBOUR: 'it returns false'. Refute it at one input. -/
def arenaPlaysWrong : ChangeSpec := { name := "arenaPlays", fn := fun _ => fun
  | [d1, d2] => { results := [.lit (.bool false)], args := [d1, d2] }
  | _ => none }
def ArenaPlaysWrongFalsely : Prop := arenaPlaysRow.holds Try.pinned (OpenSpec.ofChange arenaPlaysWrong)

/-- 'samaralaw06.AreaBack': WHATEVER THE INPUT: true; the input reads as it did. -/
def areaBackSpec : ChangeSpec := { name := "areaBack", fn := fun _ => fun
  | [d1, d2] => { results := [.lit (.bool true)], args := [d1, d2] }
  | _ => none }
def areaBackRow : OpenClaim := { program := "ytjlgeoaomegbmaa", sum := "decaf41aeac86e16387d33c171c623f1edc7322f1d4ca91c658c778ca839738b", func := "samara/samaralaw06.AreaBack", spec := "areaBack", apart := false }
def AreaBackSaid : Prop := areaBackRow.holds Try.pinned (OpenSpec.ofChange areaBackSpec)

/-- ITS FALSE NEIGHBOUR: 'it returns false'. Refute it at one input. -/
def areaBackWrong : ChangeSpec := { name := "areaBack", fn := fun _ => fun
  | [d1, d2] => { results := [.lit (.bool false)], args := [d1, d2] }
  | _ => none }
def AreaBackWrongFalsely : Prop := areaBackRow.holds Try.pinned (OpenSpec.ofChange areaBackWrong)

/- THE SECOND FORM. 'bulk': how many values and letters a reading holds, each counted each time it is reached (what is shared counts as often as it is met; a slice's spare places count too). A statement '..UptoSaid' is the law's where the arguments, and the package variables that the reading takes, are together of bulk at most 1048576: NARROWER than '..Said'. Prove '..Said' where nothing that the law and all that it calls make is longer than what came in: it says more and counts as full. Else prove '..UptoSaid'. A law counts once. -/
mutual
def uptoBulk {H : Type} : DataW H → Nat
  | .lit (.string bytes) => bytes.length + 1
  | .lit _ => 1
  | .nil => 1
  | .ptr d => uptoBulk d + 1
  | .slice elems spare => uptoBulkAll elems + uptoBulkAll spare + 1
  | .agg parts => uptoBulkAll parts + 1
  | .iface _ d => uptoBulk d + 1
  | .map entries => uptoBulkEntries entries + 1
  | .held _ => 1
def uptoBulkAll {H : Type} : List (DataW H) → Nat
  | [] => 0
  | d :: r => uptoBulk d + uptoBulkAll r
def uptoBulkEntries {H : Type} : List (Lit × DataW H) → Nat
  | [] => 0
  | x :: r => uptoBulkEntry x + uptoBulkEntries r
def uptoBulkEntry {H : Type} : Lit × DataW H → Nat
  | (.string bytes, d) => bytes.length + uptoBulk d + 1
  | (_, d) => uptoBulk d + 1
 end
def uptoSmall : (H : Type) → List (DataW H) → Bool := fun _ ds => decide (uptoBulkAll ds ≤ 1048576)
def OpenSpec.upto (s : _root_.Go.ChangeSpec) : _root_.Go.OpenSpec := { _root_.Go.OpenSpec.ofChange s with cond := some uptoSmall }

/-- 'samaralaw09.CheckSizes', WHERE WHAT IT READS IS OF BULK AT MOST 1048576: true; the input reads as it did. -/
def checkSizesUptoRow : OpenClaim := { program := "ytjlgeoaomegbmaa", sum := "decaf41aeac86e16387d33c171c623f1edc7322f1d4ca91c658c778ca839738b", func := "samara/samaralaw09.CheckSizes", spec := "checkSizes", apart := false, narrowed := true }
def CheckSizesUptoSaid : Prop := checkSizesUptoRow.holds Try.pinned (OpenSpec.upto checkSizesSpec)

/-- 'samaralaw06.AreaMay', WHERE WHAT IT READS IS OF BULK AT MOST 1048576: true; the input reads as it did. -/
def areaMayUptoRow : OpenClaim := { program := "ytjlgeoaomegbmaa", sum := "decaf41aeac86e16387d33c171c623f1edc7322f1d4ca91c658c778ca839738b", func := "samara/samaralaw06.AreaMay", spec := "areaMay", apart := false, narrowed := true }
def AreaMayUptoSaid : Prop := areaMayUptoRow.holds Try.pinned (OpenSpec.upto areaMaySpec)

/-- 'samaralaw09.CheckFlags', WHERE WHAT IT READS IS OF BULK AT MOST 1048576: true; the input reads as it did. -/
def checkFlagsUptoRow : OpenClaim := { program := "ytjlgeoaomegbmaa", sum := "decaf41aeac86e16387d33c171c623f1edc7322f1d4ca91c658c778ca839738b", func := "samara/samaralaw09.CheckFlags", spec := "checkFlags", apart := false, narrowed := true }
def CheckFlagsUptoSaid : Prop := checkFlagsUptoRow.holds Try.pinned (OpenSpec.upto checkFlagsSpec)

/-- 'samaralaw09.CheckBackings', WHERE WHAT IT READS IS OF BULK AT MOST 1048576: true; the input reads as it did. -/
def checkBackingsUptoRow : OpenClaim := { program := "ytjlgeoaomegbmaa", sum := "decaf41aeac86e16387d33c171c623f1edc7322f1d4ca91c658c778ca839738b", func := "samara/samaralaw09.CheckBackings", spec := "checkBackings", apart := false, narrowed := true }
def CheckBackingsUptoSaid : Prop := checkBackingsUptoRow.holds Try.pinned (OpenSpec.upto checkBackingsSpec)

/-- 'samaralaw09.CheckAgain', WHERE WHAT IT READS IS OF BULK AT MOST 1048576: true; the input reads as it did. -/
def checkAgainUptoRow : OpenClaim := { program := "ytjlgeoaomegbmaa", sum := "decaf41aeac86e16387d33c171c623f1edc7322f1d4ca91c658c778ca839738b", func := "samara/samaralaw09.CheckAgain", spec := "checkAgain", apart := false, narrowed := true }
def CheckAgainUptoSaid : Prop := checkAgainUptoRow.holds Try.pinned (OpenSpec.upto checkAgainSpec)

/-- 'samaralaw09.CheckRanges', WHERE WHAT IT READS IS OF BULK AT MOST 1048576: true; the input reads as it did. -/
def checkRangesUptoRow : OpenClaim := { program := "ytjlgeoaomegbmaa", sum := "decaf41aeac86e16387d33c171c623f1edc7322f1d4ca91c658c778ca839738b", func := "samara/samaralaw09.CheckRanges", spec := "checkRanges", apart := false, narrowed := true }
def CheckRangesUptoSaid : Prop := checkRangesUptoRow.holds Try.pinned (OpenSpec.upto checkRangesSpec)

/-- 'samaralaw09.CheckCovers', WHERE WHAT IT READS IS OF BULK AT MOST 1048576: true; the input reads as it did. -/
def checkCoversUptoRow : OpenClaim := { program := "ytjlgeoaomegbmaa", sum := "decaf41aeac86e16387d33c171c623f1edc7322f1d4ca91c658c778ca839738b", func := "samara/samaralaw09.CheckCovers", spec := "checkCovers", apart := false, narrowed := true }
def CheckCoversUptoSaid : Prop := checkCoversUptoRow.holds Try.pinned (OpenSpec.upto checkCoversSpec)

/-- 'samaralaw06.AreaForms', WHERE WHAT IT READS IS OF BULK AT MOST 1048576: true; the input reads as it did. -/
def areaFormsUptoRow : OpenClaim := { program := "ytjlgeoaomegbmaa", sum := "decaf41aeac86e16387d33c171c623f1edc7322f1d4ca91c658c778ca839738b", func := "samara/samaralaw06.AreaForms", spec := "areaForms", apart := false, narrowed := true }
def AreaFormsUptoSaid : Prop := areaFormsUptoRow.holds Try.pinned (OpenSpec.upto areaFormsSpec)

/-- 'samaralaw06.AreaGoes', WHERE WHAT IT READS IS OF BULK AT MOST 1048576: true; the input reads as it did. -/
def areaGoesUptoRow : OpenClaim := { program := "ytjlgeoaomegbmaa", sum := "decaf41aeac86e16387d33c171c623f1edc7322f1d4ca91c658c778ca839738b", func := "samara/samaralaw06.AreaGoes", spec := "areaGoes", apart := false, narrowed := true }
def AreaGoesUptoSaid : Prop := areaGoesUptoRow.holds Try.pinned (OpenSpec.upto areaGoesSpec)

/-- 'samaralaw02.ArenaCells', WHERE WHAT IT READS IS OF BULK AT MOST 1048576: true; the input reads as it did. -/
def arenaCellsUptoRow : OpenClaim := { program := "ytjlgeoaomegbmaa", sum := "decaf41aeac86e16387d33c171c623f1edc7322f1d4ca91c658c778ca839738b", func := "samara/samaralaw02.ArenaCells", spec := "arenaCells", apart := false, narrowed := true }
def ArenaCellsUptoSaid : Prop := arenaCellsUptoRow.holds Try.pinned (OpenSpec.upto arenaCellsSpec)

/-- 'samaralaw02.ArenaApart', WHERE WHAT IT READS IS OF BULK AT MOST 1048576: true; the input reads as it did. -/
def arenaApartUptoRow : OpenClaim := { program := "ytjlgeoaomegbmaa", sum := "decaf41aeac86e16387d33c171c623f1edc7322f1d4ca91c658c778ca839738b", func := "samara/samaralaw02.ArenaApart", spec := "arenaApart", apart := false, narrowed := true }
def ArenaApartUptoSaid : Prop := arenaApartUptoRow.holds Try.pinned (OpenSpec.upto arenaApartSpec)

/-- 'samaralaw06.AreaNested', WHERE WHAT IT READS IS OF BULK AT MOST 1048576: true; the input reads as it did. -/
def areaNestedUptoRow : OpenClaim := { program := "ytjlgeoaomegbmaa", sum := "decaf41aeac86e16387d33c171c623f1edc7322f1d4ca91c658c778ca839738b", func := "samara/samaralaw06.AreaNested", spec := "areaNested", apart := false, narrowed := true }
def AreaNestedUptoSaid : Prop := areaNestedUptoRow.holds Try.pinned (OpenSpec.upto areaNestedSpec)

/-- 'samaralaw02.ArenaOnce', WHERE WHAT IT READS IS OF BULK AT MOST 1048576: true; the input reads as it did. -/
def arenaOnceUptoRow : OpenClaim := { program := "ytjlgeoaomegbmaa", sum := "decaf41aeac86e16387d33c171c623f1edc7322f1d4ca91c658c778ca839738b", func := "samara/samaralaw02.ArenaOnce", spec := "arenaOnce", apart := false, narrowed := true }
def ArenaOnceUptoSaid : Prop := arenaOnceUptoRow.holds Try.pinned (OpenSpec.upto arenaOnceSpec)

/-- 'samaralaw02.ArenaPlays', WHERE WHAT IT READS IS OF BULK AT MOST 1048576: true; the input reads as it did. -/
def arenaPlaysUptoRow : OpenClaim := { program := "ytjlgeoaomegbmaa", sum := "decaf41aeac86e16387d33c171c623f1edc7322f1d4ca91c658c778ca839738b", func := "samara/samaralaw02.ArenaPlays", spec := "arenaPlays", apart := false, narrowed := true }
def ArenaPlaysUptoSaid : Prop := arenaPlaysUptoRow.holds Try.pinned (OpenSpec.upto arenaPlaysSpec)

/-- 'samaralaw06.AreaBack', WHERE WHAT IT READS IS OF BULK AT MOST 1048576: true; the input reads as it did. -/
def areaBackUptoRow : OpenClaim := { program := "ytjlgeoaomegbmaa", sum := "decaf41aeac86e16387d33c171c623f1edc7322f1d4ca91c658c778ca839738b", func := "samara/samaralaw06.AreaBack", spec := "areaBack", apart := false, narrowed := true }
def AreaBackUptoSaid : Prop := areaBackUptoRow.holds Try.pinned (OpenSpec.upto areaBackSpec)

end Rows
end Go.Proofs.Ytjlgeoaomegbmaa
