/-
  No cell of these rows narrows 'for every input' (looked for: loops, veiled, ifaces, maps, wideKeys, modest, calm, conditions, laid).
  DERIVED. THE GIVEN ROWS OF THIS SEAT. 39 by the template 'for every input the law returns true; each argument reads behind the call as it read before'; 0 by the template 'total and deterministic' (their statements: YtbcicjmepojlnaaTotals.lean).
  GIVEN WITH THE SEED: the statements are not yours to turn. If you find one false, say at which input.
  Laid BY PROGRAM, IN A SANDBOX (cutbox-rows.mjs): the forced cells as the released guide's own fill.sh prints them over the translation 61b0997c6328b9bd… (all of the seat's roots in one cut). By AI agents, Wed Nov 11 2026. No macro, syntax, notation, axiom, sorry.
-/
import Derived.Test.YtbcicjmepojlnaaChecked
import GoSem.Claim
import GoSem.ClaimJoined
import GoSem.ClaimMapViews
import Derived.JoinedTies
import Derived.KernelRfl
namespace Go.Proofs.Ytbcicjmepojlnaa
/- THE CELL 'sum', in the pinned program and in every row, IS THE sha256 OF THE DUMP (.gsa) THAT YtbcicjmepojlnaaProg.lean LOADS. Nothing in Lean hashes anything: it is a label: what it is worth is what the hold of that sum in a sandbox is worth. -/
noncomputable def Try.pinned : Pinned := { name := "ytbcicjmepojlnaa", sum := "61b0997c6328b9bdbf8133c55060888aca435e372ff57d10088622410e8dfbe5", checked := Try.checked }
namespace Rows
def none {H : Type} : Left H := { results := [], args := [] }

/-- 'samaralaw11.ProtectFaults': WHATEVER THE INPUT: true; the input reads as it did. -/
def protectFaultsSpec : ChangeSpec := { name := "protectFaults", fn := fun _ => fun
  | [d1, d2] => { results := [.lit (.bool true)], args := [d1, d2] }
  | _ => none }
def protectFaultsRow : OpenClaim := { program := "ytbcicjmepojlnaa", sum := "61b0997c6328b9bdbf8133c55060888aca435e372ff57d10088622410e8dfbe5", func := "samara/samaralaw11.ProtectFaults", spec := "protectFaults", unfollowed := true, recurses := true, apart := false }
def ProtectFaultsSaid : Prop := protectFaultsRow.holds Try.pinned (OpenSpec.ofChange protectFaultsSpec)

/-- ITS FALSE NEIGHBOUR: 'it returns false'. Refute it at one input. -/
def protectFaultsWrong : ChangeSpec := { name := "protectFaults", fn := fun _ => fun
  | [d1, d2] => { results := [.lit (.bool false)], args := [d1, d2] }
  | _ => none }
def ProtectFaultsWrongFalsely : Prop := protectFaultsRow.holds Try.pinned (OpenSpec.ofChange protectFaultsWrong)

/-- 'samaralaw08.GapAll': WHATEVER THE INPUT: true; the input reads as it did. -/
def gapAllSpec : ChangeSpec := { name := "gapAll", fn := fun _ => fun
  | [d] => { results := [.lit (.bool true)], args := [d] }
  | _ => none }
def gapAllRow : OpenClaim := { program := "ytbcicjmepojlnaa", sum := "61b0997c6328b9bdbf8133c55060888aca435e372ff57d10088622410e8dfbe5", func := "samara/samaralaw08.GapAll", spec := "gapAll", unfollowed := true, recurses := true, apart := false }
def GapAllSaid : Prop := gapAllRow.holds Try.pinned (OpenSpec.ofChange gapAllSpec)

/-- ITS FALSE NEIGHBOUR: 'it returns false'. Refute it at one input. -/
def gapAllWrong : ChangeSpec := { name := "gapAll", fn := fun _ => fun
  | [d] => { results := [.lit (.bool false)], args := [d] }
  | _ => none }
def GapAllWrongFalsely : Prop := gapAllRow.holds Try.pinned (OpenSpec.ofChange gapAllWrong)

/-- 'samaralaw08.GapSums': WHATEVER THE INPUT: true; the input reads as it did. -/
def gapSumsSpec : ChangeSpec := { name := "gapSums", fn := fun _ => fun
  | [d] => { results := [.lit (.bool true)], args := [d] }
  | _ => none }
def gapSumsRow : OpenClaim := { program := "ytbcicjmepojlnaa", sum := "61b0997c6328b9bdbf8133c55060888aca435e372ff57d10088622410e8dfbe5", func := "samara/samaralaw08.GapSums", spec := "gapSums", unfollowed := true, recurses := true, apart := false }
def GapSumsSaid : Prop := gapSumsRow.holds Try.pinned (OpenSpec.ofChange gapSumsSpec)

/-- ITS FALSE NEIGHBOUR: 'it returns false'. Refute it at one input. -/
def gapSumsWrong : ChangeSpec := { name := "gapSums", fn := fun _ => fun
  | [d] => { results := [.lit (.bool false)], args := [d] }
  | _ => none }
def GapSumsWrongFalsely : Prop := gapSumsRow.holds Try.pinned (OpenSpec.ofChange gapSumsWrong)

/-- 'samaralaw08.GapFits': WHATEVER THE INPUT: true; the input reads as it did. -/
def gapFitsSpec : ChangeSpec := { name := "gapFits", fn := fun _ => fun
  | [d1, d2, d3] => { results := [.lit (.bool true)], args := [d1, d2, d3] }
  | _ => none }
def gapFitsRow : OpenClaim := { program := "ytbcicjmepojlnaa", sum := "61b0997c6328b9bdbf8133c55060888aca435e372ff57d10088622410e8dfbe5", func := "samara/samaralaw08.GapFits", spec := "gapFits", unfollowed := true, recurses := true, apart := false }
def GapFitsSaid : Prop := gapFitsRow.holds Try.pinned (OpenSpec.ofChange gapFitsSpec)

/-- ITS FALSE NEIGHBOUR: 'it returns false'. Refute it at one input. -/
def gapFitsWrong : ChangeSpec := { name := "gapFits", fn := fun _ => fun
  | [d1, d2, d3] => { results := [.lit (.bool false)], args := [d1, d2, d3] }
  | _ => none }
def GapFitsWrongFalsely : Prop := gapFitsRow.holds Try.pinned (OpenSpec.ofChange gapFitsWrong)

/-- 'samaralaw08.GapChooses': WHATEVER THE INPUT: true; the input reads as it did. -/
def gapChoosesSpec : ChangeSpec := { name := "gapChooses", fn := fun _ => fun
  | [d1, d2, d3] => { results := [.lit (.bool true)], args := [d1, d2, d3] }
  | _ => none }
def gapChoosesRow : OpenClaim := { program := "ytbcicjmepojlnaa", sum := "61b0997c6328b9bdbf8133c55060888aca435e372ff57d10088622410e8dfbe5", func := "samara/samaralaw08.GapChooses", spec := "gapChooses", unfollowed := true, recurses := true, apart := false }
def GapChoosesSaid : Prop := gapChoosesRow.holds Try.pinned (OpenSpec.ofChange gapChoosesSpec)

/-- ITS FALSE NEIGHBOUR: 'it returns false'. Refute it at one input. -/
def gapChoosesWrong : ChangeSpec := { name := "gapChooses", fn := fun _ => fun
  | [d1, d2, d3] => { results := [.lit (.bool false)], args := [d1, d2, d3] }
  | _ => none }
def GapChoosesWrongFalsely : Prop := gapChoosesRow.holds Try.pinned (OpenSpec.ofChange gapChoosesWrong)

/-- 'samaralaw08.GapWrong': WHATEVER THE INPUT: true; the input reads as it did. -/
def gapWrongSpec : ChangeSpec := { name := "gapWrong", fn := fun _ => fun
  | [d1, d2] => { results := [.lit (.bool true)], args := [d1, d2] }
  | _ => none }
def gapWrongRow : OpenClaim := { program := "ytbcicjmepojlnaa", sum := "61b0997c6328b9bdbf8133c55060888aca435e372ff57d10088622410e8dfbe5", func := "samara/samaralaw08.GapWrong", spec := "gapWrong", unfollowed := true, recurses := true, apart := false }
def GapWrongSaid : Prop := gapWrongRow.holds Try.pinned (OpenSpec.ofChange gapWrongSpec)

/-- ITS FALSE NEIGHBOUR: 'it returns false'. Refute it at one input. -/
def gapWrongWrong : ChangeSpec := { name := "gapWrong", fn := fun _ => fun
  | [d1, d2] => { results := [.lit (.bool false)], args := [d1, d2] }
  | _ => none }
def GapWrongWrongFalsely : Prop := gapWrongRow.holds Try.pinned (OpenSpec.ofChange gapWrongWrong)

/-- 'samaralaw08.GapExact': WHATEVER THE INPUT: true; the input reads as it did. -/
def gapExactSpec : ChangeSpec := { name := "gapExact", fn := fun _ => fun
  | [d] => { results := [.lit (.bool true)], args := [d] }
  | _ => none }
def gapExactRow : OpenClaim := { program := "ytbcicjmepojlnaa", sum := "61b0997c6328b9bdbf8133c55060888aca435e372ff57d10088622410e8dfbe5", func := "samara/samaralaw08.GapExact", spec := "gapExact", unfollowed := true, recurses := true, apart := false }
def GapExactSaid : Prop := gapExactRow.holds Try.pinned (OpenSpec.ofChange gapExactSpec)

/-- ITS FALSE NEIGHBOUR: 'it returns false'. Refute it at one input. -/
def gapExactWrong : ChangeSpec := { name := "gapExact", fn := fun _ => fun
  | [d] => { results := [.lit (.bool false)], args := [d] }
  | _ => none }
def GapExactWrongFalsely : Prop := gapExactRow.holds Try.pinned (OpenSpec.ofChange gapExactWrong)

/-- 'samaralaw07.ListApart': WHATEVER THE INPUT: true; the input reads as it did. -/
def listApartSpec : ChangeSpec := { name := "listApart", fn := fun _ => fun
  | [d1, d2, d3] => { results := [.lit (.bool true)], args := [d1, d2, d3] }
  | _ => none }
def listApartRow : OpenClaim := { program := "ytbcicjmepojlnaa", sum := "61b0997c6328b9bdbf8133c55060888aca435e372ff57d10088622410e8dfbe5", func := "samara/samaralaw07.ListApart", spec := "listApart", apart := false }
def ListApartSaid : Prop := listApartRow.holds Try.pinned (OpenSpec.ofChange listApartSpec)

/-- ITS FALSE NEIGHBOUR: 'it returns false'. Refute it at one input. -/
def listApartWrong : ChangeSpec := { name := "listApart", fn := fun _ => fun
  | [d1, d2, d3] => { results := [.lit (.bool false)], args := [d1, d2, d3] }
  | _ => none }
def ListApartWrongFalsely : Prop := listApartRow.holds Try.pinned (OpenSpec.ofChange listApartWrong)

/-- 'samaralaw07.ListPuts': WHATEVER THE INPUT: true; the input reads as it did. -/
def listPutsSpec : ChangeSpec := { name := "listPuts", fn := fun _ => fun
  | [d1, d2] => { results := [.lit (.bool true)], args := [d1, d2] }
  | _ => none }
def listPutsRow : OpenClaim := { program := "ytbcicjmepojlnaa", sum := "61b0997c6328b9bdbf8133c55060888aca435e372ff57d10088622410e8dfbe5", func := "samara/samaralaw07.ListPuts", spec := "listPuts", apart := false }
def ListPutsSaid : Prop := listPutsRow.holds Try.pinned (OpenSpec.ofChange listPutsSpec)

/-- ITS FALSE NEIGHBOUR: 'it returns false'. Refute it at one input. -/
def listPutsWrong : ChangeSpec := { name := "listPuts", fn := fun _ => fun
  | [d1, d2] => { results := [.lit (.bool false)], args := [d1, d2] }
  | _ => none }
def ListPutsWrongFalsely : Prop := listPutsRow.holds Try.pinned (OpenSpec.ofChange listPutsWrong)

/-- 'samaralaw07.ListUndone': WHATEVER THE INPUT: true; the input reads as it did. -/
def listUndoneSpec : ChangeSpec := { name := "listUndone", fn := fun _ => fun
  | [d1, d2] => { results := [.lit (.bool true)], args := [d1, d2] }
  | _ => none }
def listUndoneRow : OpenClaim := { program := "ytbcicjmepojlnaa", sum := "61b0997c6328b9bdbf8133c55060888aca435e372ff57d10088622410e8dfbe5", func := "samara/samaralaw07.ListUndone", spec := "listUndone", apart := false }
def ListUndoneSaid : Prop := listUndoneRow.holds Try.pinned (OpenSpec.ofChange listUndoneSpec)

/-- ITS FALSE NEIGHBOUR: 'it returns false'. Refute it at one input. -/
def listUndoneWrong : ChangeSpec := { name := "listUndone", fn := fun _ => fun
  | [d1, d2] => { results := [.lit (.bool false)], args := [d1, d2] }
  | _ => none }
def ListUndoneWrongFalsely : Prop := listUndoneRow.holds Try.pinned (OpenSpec.ofChange listUndoneWrong)

/-- 'samaralaw07.ListTwice': WHATEVER THE INPUT: true; the input reads as it did. -/
def listTwiceSpec : ChangeSpec := { name := "listTwice", fn := fun _ => fun
  | [d1, d2, d3] => { results := [.lit (.bool true)], args := [d1, d2, d3] }
  | _ => none }
def listTwiceRow : OpenClaim := { program := "ytbcicjmepojlnaa", sum := "61b0997c6328b9bdbf8133c55060888aca435e372ff57d10088622410e8dfbe5", func := "samara/samaralaw07.ListTwice", spec := "listTwice", apart := false }
def ListTwiceSaid : Prop := listTwiceRow.holds Try.pinned (OpenSpec.ofChange listTwiceSpec)

/-- ITS FALSE NEIGHBOUR: 'it returns false'. Refute it at one input. -/
def listTwiceWrong : ChangeSpec := { name := "listTwice", fn := fun _ => fun
  | [d1, d2, d3] => { results := [.lit (.bool false)], args := [d1, d2, d3] }
  | _ => none }
def ListTwiceWrongFalsely : Prop := listTwiceRow.holds Try.pinned (OpenSpec.ofChange listTwiceWrong)

/-- 'samaralaw07.ListOwn': WHATEVER THE INPUT: true; the input reads as it did. -/
def listOwnSpec : ChangeSpec := { name := "listOwn", fn := fun _ => fun
  | [d1, d2] => { results := [.lit (.bool true)], args := [d1, d2] }
  | _ => none }
def listOwnRow : OpenClaim := { program := "ytbcicjmepojlnaa", sum := "61b0997c6328b9bdbf8133c55060888aca435e372ff57d10088622410e8dfbe5", func := "samara/samaralaw07.ListOwn", spec := "listOwn", apart := false }
def ListOwnSaid : Prop := listOwnRow.holds Try.pinned (OpenSpec.ofChange listOwnSpec)

/-- ITS FALSE NEIGHBOUR: 'it returns false'. Refute it at one input. -/
def listOwnWrong : ChangeSpec := { name := "listOwn", fn := fun _ => fun
  | [d1, d2] => { results := [.lit (.bool false)], args := [d1, d2] }
  | _ => none }
def ListOwnWrongFalsely : Prop := listOwnRow.holds Try.pinned (OpenSpec.ofChange listOwnWrong)

/-- 'samaralaw08.GapTaken': WHATEVER THE INPUT: true; the input reads as it did. -/
def gapTakenSpec : ChangeSpec := { name := "gapTaken", fn := fun _ => fun
  | [d1, d2, d3] => { results := [.lit (.bool true)], args := [d1, d2, d3] }
  | _ => none }
def gapTakenRow : OpenClaim := { program := "ytbcicjmepojlnaa", sum := "61b0997c6328b9bdbf8133c55060888aca435e372ff57d10088622410e8dfbe5", func := "samara/samaralaw08.GapTaken", spec := "gapTaken", unfollowed := true, recurses := true, apart := false }
def GapTakenSaid : Prop := gapTakenRow.holds Try.pinned (OpenSpec.ofChange gapTakenSpec)

/-- ITS FALSE NEIGHBOUR: 'it returns false'. Refute it at one input. -/
def gapTakenWrong : ChangeSpec := { name := "gapTaken", fn := fun _ => fun
  | [d1, d2, d3] => { results := [.lit (.bool false)], args := [d1, d2, d3] }
  | _ => none }
def GapTakenWrongFalsely : Prop := gapTakenRow.holds Try.pinned (OpenSpec.ofChange gapTakenWrong)

/-- 'samaralaw07.ListRight': WHATEVER THE INPUT: true; the input reads as it did. -/
def listRightSpec : ChangeSpec := { name := "listRight", fn := fun _ => fun
  | [d1, d2, d3] => { results := [.lit (.bool true)], args := [d1, d2, d3] }
  | _ => none }
def listRightRow : OpenClaim := { program := "ytbcicjmepojlnaa", sum := "61b0997c6328b9bdbf8133c55060888aca435e372ff57d10088622410e8dfbe5", func := "samara/samaralaw07.ListRight", spec := "listRight", unfollowed := true, recurses := true, apart := false }
def ListRightSaid : Prop := listRightRow.holds Try.pinned (OpenSpec.ofChange listRightSpec)

/-- ITS FALSE NEIGHBOUR: 'it returns false'. Refute it at one input. -/
def listRightWrong : ChangeSpec := { name := "listRight", fn := fun _ => fun
  | [d1, d2, d3] => { results := [.lit (.bool false)], args := [d1, d2, d3] }
  | _ => none }
def ListRightWrongFalsely : Prop := listRightRow.holds Try.pinned (OpenSpec.ofChange listRightWrong)

/-- 'samaralaw13.BrkTwice': WHATEVER THE INPUT: true; the input reads as it did. -/
def brkTwiceSpec : ChangeSpec := { name := "brkTwice", fn := fun _ => fun
  | [d1, d2, d3] => { results := [.lit (.bool true)], args := [d1, d2, d3] }
  | _ => none }
def brkTwiceRow : OpenClaim := { program := "ytbcicjmepojlnaa", sum := "61b0997c6328b9bdbf8133c55060888aca435e372ff57d10088622410e8dfbe5", func := "samara/samaralaw13.BrkTwice", spec := "brkTwice", unfollowed := true, recurses := true, apart := false }
def BrkTwiceSaid : Prop := brkTwiceRow.holds Try.pinned (OpenSpec.ofChange brkTwiceSpec)

/-- ITS FALSE NEIGHBOUR: 'it returns false'. Refute it at one input. -/
def brkTwiceWrong : ChangeSpec := { name := "brkTwice", fn := fun _ => fun
  | [d1, d2, d3] => { results := [.lit (.bool false)], args := [d1, d2, d3] }
  | _ => none }
def BrkTwiceWrongFalsely : Prop := brkTwiceRow.holds Try.pinned (OpenSpec.ofChange brkTwiceWrong)

/-- 'samaralaw13.BrkMoves': WHATEVER THE INPUT: true; the input reads as it did. -/
def brkMovesSpec : ChangeSpec := { name := "brkMoves", fn := fun _ => fun
  | [d1, d2, d3] => { results := [.lit (.bool true)], args := [d1, d2, d3] }
  | _ => none }
def brkMovesRow : OpenClaim := { program := "ytbcicjmepojlnaa", sum := "61b0997c6328b9bdbf8133c55060888aca435e372ff57d10088622410e8dfbe5", func := "samara/samaralaw13.BrkMoves", spec := "brkMoves", unfollowed := true, recurses := true, apart := false }
def BrkMovesSaid : Prop := brkMovesRow.holds Try.pinned (OpenSpec.ofChange brkMovesSpec)

/-- ITS FALSE NEIGHBOUR: 'it returns false'. Refute it at one input. -/
def brkMovesWrong : ChangeSpec := { name := "brkMoves", fn := fun _ => fun
  | [d1, d2, d3] => { results := [.lit (.bool false)], args := [d1, d2, d3] }
  | _ => none }
def BrkMovesWrongFalsely : Prop := brkMovesRow.holds Try.pinned (OpenSpec.ofChange brkMovesWrong)

/-- 'samaralaw13.BrkWrong': WHATEVER THE INPUT: true; the input reads as it did. -/
def brkWrongSpec : ChangeSpec := { name := "brkWrong", fn := fun _ => fun
  | [d1, d2, d3] => { results := [.lit (.bool true)], args := [d1, d2, d3] }
  | _ => none }
def brkWrongRow : OpenClaim := { program := "ytbcicjmepojlnaa", sum := "61b0997c6328b9bdbf8133c55060888aca435e372ff57d10088622410e8dfbe5", func := "samara/samaralaw13.BrkWrong", spec := "brkWrong", unfollowed := true, recurses := true, apart := false }
def BrkWrongSaid : Prop := brkWrongRow.holds Try.pinned (OpenSpec.ofChange brkWrongSpec)

/-- ITS FALSE NEIGHBOUR: 'it returns false'. Refute it at one input. -/
def brkWrongWrong : ChangeSpec := { name := "brkWrong", fn := fun _ => fun
  | [d1, d2, d3] => { results := [.lit (.bool false)], args := [d1, d2, d3] }
  | _ => none }
def BrkWrongWrongFalsely : Prop := brkWrongRow.holds Try.pinned (OpenSpec.ofChange brkWrongWrong)

/-- 'samaralaw13.BrkBack': WHATEVER THE INPUT: true; the input reads as it did. -/
def brkBackSpec : ChangeSpec := { name := "brkBack", fn := fun _ => fun
  | [d1, d2, d3] => { results := [.lit (.bool true)], args := [d1, d2, d3] }
  | _ => none }
def brkBackRow : OpenClaim := { program := "ytbcicjmepojlnaa", sum := "61b0997c6328b9bdbf8133c55060888aca435e372ff57d10088622410e8dfbe5", func := "samara/samaralaw13.BrkBack", spec := "brkBack", unfollowed := true, recurses := true, apart := false }
def BrkBackSaid : Prop := brkBackRow.holds Try.pinned (OpenSpec.ofChange brkBackSpec)

/-- ITS FALSE NEIGHBOUR: 'it returns false'. Refute it at one input. -/
def brkBackWrong : ChangeSpec := { name := "brkBack", fn := fun _ => fun
  | [d1, d2, d3] => { results := [.lit (.bool false)], args := [d1, d2, d3] }
  | _ => none }
def BrkBackWrongFalsely : Prop := brkBackRow.holds Try.pinned (OpenSpec.ofChange brkBackWrong)

/-- 'samaralaw13.BrkSteps': WHATEVER THE INPUT: true; the input reads as it did. -/
def brkStepsSpec : ChangeSpec := { name := "brkSteps", fn := fun _ => fun
  | [d] => { results := [.lit (.bool true)], args := [d] }
  | _ => none }
def brkStepsRow : OpenClaim := { program := "ytbcicjmepojlnaa", sum := "61b0997c6328b9bdbf8133c55060888aca435e372ff57d10088622410e8dfbe5", func := "samara/samaralaw13.BrkSteps", spec := "brkSteps", unfollowed := true, recurses := true, apart := false }
def BrkStepsSaid : Prop := brkStepsRow.holds Try.pinned (OpenSpec.ofChange brkStepsSpec)

/-- ITS FALSE NEIGHBOUR: 'it returns false'. Refute it at one input. -/
def brkStepsWrong : ChangeSpec := { name := "brkSteps", fn := fun _ => fun
  | [d] => { results := [.lit (.bool false)], args := [d] }
  | _ => none }
def BrkStepsWrongFalsely : Prop := brkStepsRow.holds Try.pinned (OpenSpec.ofChange brkStepsWrong)

/-- 'samaralaw11.ProtectHalves': WHATEVER THE INPUT: true; the input reads as it did. -/
def protectHalvesSpec : ChangeSpec := { name := "protectHalves", fn := fun _ => fun
  | [d1, d2] => { results := [.lit (.bool true)], args := [d1, d2] }
  | _ => none }
def protectHalvesRow : OpenClaim := { program := "ytbcicjmepojlnaa", sum := "61b0997c6328b9bdbf8133c55060888aca435e372ff57d10088622410e8dfbe5", func := "samara/samaralaw11.ProtectHalves", spec := "protectHalves", unfollowed := true, recurses := true, apart := false }
def ProtectHalvesSaid : Prop := protectHalvesRow.holds Try.pinned (OpenSpec.ofChange protectHalvesSpec)

/-- ITS FALSE NEIGHBOUR: 'it returns false'. Refute it at one input. -/
def protectHalvesWrong : ChangeSpec := { name := "protectHalves", fn := fun _ => fun
  | [d1, d2] => { results := [.lit (.bool false)], args := [d1, d2] }
  | _ => none }
def ProtectHalvesWrongFalsely : Prop := protectHalvesRow.holds Try.pinned (OpenSpec.ofChange protectHalvesWrong)

/-- 'samaralaw11.ProtectSets': WHATEVER THE INPUT: true; the input reads as it did. -/
def protectSetsSpec : ChangeSpec := { name := "protectSets", fn := fun _ => fun
  | [d1, d2] => { results := [.lit (.bool true)], args := [d1, d2] }
  | _ => none }
def protectSetsRow : OpenClaim := { program := "ytbcicjmepojlnaa", sum := "61b0997c6328b9bdbf8133c55060888aca435e372ff57d10088622410e8dfbe5", func := "samara/samaralaw11.ProtectSets", spec := "protectSets", unfollowed := true, recurses := true, apart := false }
def ProtectSetsSaid : Prop := protectSetsRow.holds Try.pinned (OpenSpec.ofChange protectSetsSpec)

/-- ITS FALSE NEIGHBOUR: 'it returns false'. Refute it at one input. -/
def protectSetsWrong : ChangeSpec := { name := "protectSets", fn := fun _ => fun
  | [d1, d2] => { results := [.lit (.bool false)], args := [d1, d2] }
  | _ => none }
def ProtectSetsWrongFalsely : Prop := protectSetsRow.holds Try.pinned (OpenSpec.ofChange protectSetsWrong)

/-- 'samaralaw11.ProtectWrong': WHATEVER THE INPUT: true; the input reads as it did. -/
def protectWrongSpec : ChangeSpec := { name := "protectWrong", fn := fun _ => fun
  | [d1, d2] => { results := [.lit (.bool true)], args := [d1, d2] }
  | _ => none }
def protectWrongRow : OpenClaim := { program := "ytbcicjmepojlnaa", sum := "61b0997c6328b9bdbf8133c55060888aca435e372ff57d10088622410e8dfbe5", func := "samara/samaralaw11.ProtectWrong", spec := "protectWrong", unfollowed := true, recurses := true, apart := false }
def ProtectWrongSaid : Prop := protectWrongRow.holds Try.pinned (OpenSpec.ofChange protectWrongSpec)

/-- ITS FALSE NEIGHBOUR: 'it returns false'. Refute it at one input. -/
def protectWrongWrong : ChangeSpec := { name := "protectWrong", fn := fun _ => fun
  | [d1, d2] => { results := [.lit (.bool false)], args := [d1, d2] }
  | _ => none }
def ProtectWrongWrongFalsely : Prop := protectWrongRow.holds Try.pinned (OpenSpec.ofChange protectWrongWrong)

/-- 'samaralaw11.ProtectAllows': WHATEVER THE INPUT: true; the input reads as it did. -/
def protectAllowsSpec : ChangeSpec := { name := "protectAllows", fn := fun _ => fun
  | [d1, d2, d3] => { results := [.lit (.bool true)], args := [d1, d2, d3] }
  | _ => none }
def protectAllowsRow : OpenClaim := { program := "ytbcicjmepojlnaa", sum := "61b0997c6328b9bdbf8133c55060888aca435e372ff57d10088622410e8dfbe5", func := "samara/samaralaw11.ProtectAllows", spec := "protectAllows", unfollowed := true, recurses := true, apart := false }
def ProtectAllowsSaid : Prop := protectAllowsRow.holds Try.pinned (OpenSpec.ofChange protectAllowsSpec)

/-- ITS FALSE NEIGHBOUR: 'it returns false'. Refute it at one input. -/
def protectAllowsWrong : ChangeSpec := { name := "protectAllows", fn := fun _ => fun
  | [d1, d2, d3] => { results := [.lit (.bool false)], args := [d1, d2, d3] }
  | _ => none }
def ProtectAllowsWrongFalsely : Prop := protectAllowsRow.holds Try.pinned (OpenSpec.ofChange protectAllowsWrong)

/-- 'samaralaw11.ProtectBack': WHATEVER THE INPUT: true; the input reads as it did. -/
def protectBackSpec : ChangeSpec := { name := "protectBack", fn := fun _ => fun
  | [d1, d2, d3] => { results := [.lit (.bool true)], args := [d1, d2, d3] }
  | _ => none }
def protectBackRow : OpenClaim := { program := "ytbcicjmepojlnaa", sum := "61b0997c6328b9bdbf8133c55060888aca435e372ff57d10088622410e8dfbe5", func := "samara/samaralaw11.ProtectBack", spec := "protectBack", unfollowed := true, recurses := true, apart := false }
def ProtectBackSaid : Prop := protectBackRow.holds Try.pinned (OpenSpec.ofChange protectBackSpec)

/-- ITS FALSE NEIGHBOUR: 'it returns false'. Refute it at one input. -/
def protectBackWrong : ChangeSpec := { name := "protectBack", fn := fun _ => fun
  | [d1, d2, d3] => { results := [.lit (.bool false)], args := [d1, d2, d3] }
  | _ => none }
def ProtectBackWrongFalsely : Prop := protectBackRow.holds Try.pinned (OpenSpec.ofChange protectBackWrong)

/-- 'samaralaw10.MappingAgain': WHATEVER THE INPUT: true; the input reads as it did. -/
def mappingAgainSpec : ChangeSpec := { name := "mappingAgain", fn := fun _ => fun
  | [d1, d2] => { results := [.lit (.bool true)], args := [d1, d2] }
  | _ => none }
def mappingAgainRow : OpenClaim := { program := "ytbcicjmepojlnaa", sum := "61b0997c6328b9bdbf8133c55060888aca435e372ff57d10088622410e8dfbe5", func := "samara/samaralaw10.MappingAgain", spec := "mappingAgain", unfollowed := true, recurses := true, apart := false }
def MappingAgainSaid : Prop := mappingAgainRow.holds Try.pinned (OpenSpec.ofChange mappingAgainSpec)

/-- ITS FALSE NEIGHBOUR: 'it returns false'. Refute it at one input. -/
def mappingAgainWrong : ChangeSpec := { name := "mappingAgain", fn := fun _ => fun
  | [d1, d2] => { results := [.lit (.bool false)], args := [d1, d2] }
  | _ => none }
def MappingAgainWrongFalsely : Prop := mappingAgainRow.holds Try.pinned (OpenSpec.ofChange mappingAgainWrong)

/-- 'samaralaw10.MappingHint': WHATEVER THE INPUT: true; the input reads as it did. -/
def mappingHintSpec : ChangeSpec := { name := "mappingHint", fn := fun _ => fun
  | [d1, d2] => { results := [.lit (.bool true)], args := [d1, d2] }
  | _ => none }
def mappingHintRow : OpenClaim := { program := "ytbcicjmepojlnaa", sum := "61b0997c6328b9bdbf8133c55060888aca435e372ff57d10088622410e8dfbe5", func := "samara/samaralaw10.MappingHint", spec := "mappingHint", unfollowed := true, recurses := true, apart := false }
def MappingHintSaid : Prop := mappingHintRow.holds Try.pinned (OpenSpec.ofChange mappingHintSpec)

/-- ITS FALSE NEIGHBOUR: 'it returns false'. Refute it at one input. -/
def mappingHintWrong : ChangeSpec := { name := "mappingHint", fn := fun _ => fun
  | [d1, d2] => { results := [.lit (.bool false)], args := [d1, d2] }
  | _ => none }
def MappingHintWrongFalsely : Prop := mappingHintRow.holds Try.pinned (OpenSpec.ofChange mappingHintWrong)

/-- 'samaralaw10.MappingMaps': WHATEVER THE INPUT: true; the input reads as it did. -/
def mappingMapsSpec : ChangeSpec := { name := "mappingMaps", fn := fun _ => fun
  | [d1, d2] => { results := [.lit (.bool true)], args := [d1, d2] }
  | _ => none }
def mappingMapsRow : OpenClaim := { program := "ytbcicjmepojlnaa", sum := "61b0997c6328b9bdbf8133c55060888aca435e372ff57d10088622410e8dfbe5", func := "samara/samaralaw10.MappingMaps", spec := "mappingMaps", unfollowed := true, recurses := true, apart := false }
def MappingMapsSaid : Prop := mappingMapsRow.holds Try.pinned (OpenSpec.ofChange mappingMapsSpec)

/-- ITS FALSE NEIGHBOUR: 'it returns false'. Refute it at one input. -/
def mappingMapsWrong : ChangeSpec := { name := "mappingMaps", fn := fun _ => fun
  | [d1, d2] => { results := [.lit (.bool false)], args := [d1, d2] }
  | _ => none }
def MappingMapsWrongFalsely : Prop := mappingMapsRow.holds Try.pinned (OpenSpec.ofChange mappingMapsWrong)

/-- 'samaralaw10.MappingUnmaps': WHATEVER THE INPUT: true; the input reads as it did. -/
def mappingUnmapsSpec : ChangeSpec := { name := "mappingUnmaps", fn := fun _ => fun
  | [d1, d2] => { results := [.lit (.bool true)], args := [d1, d2] }
  | _ => none }
def mappingUnmapsRow : OpenClaim := { program := "ytbcicjmepojlnaa", sum := "61b0997c6328b9bdbf8133c55060888aca435e372ff57d10088622410e8dfbe5", func := "samara/samaralaw10.MappingUnmaps", spec := "mappingUnmaps", unfollowed := true, recurses := true, apart := false }
def MappingUnmapsSaid : Prop := mappingUnmapsRow.holds Try.pinned (OpenSpec.ofChange mappingUnmapsSpec)

/-- ITS FALSE NEIGHBOUR: 'it returns false'. Refute it at one input. -/
def mappingUnmapsWrong : ChangeSpec := { name := "mappingUnmaps", fn := fun _ => fun
  | [d1, d2] => { results := [.lit (.bool false)], args := [d1, d2] }
  | _ => none }
def MappingUnmapsWrongFalsely : Prop := mappingUnmapsRow.holds Try.pinned (OpenSpec.ofChange mappingUnmapsWrong)

/-- 'samaralaw10.MappingPlaces': WHATEVER THE INPUT: true; the input reads as it did. -/
def mappingPlacesSpec : ChangeSpec := { name := "mappingPlaces", fn := fun _ => fun
  | [d1, d2, d3] => { results := [.lit (.bool true)], args := [d1, d2, d3] }
  | _ => none }
def mappingPlacesRow : OpenClaim := { program := "ytbcicjmepojlnaa", sum := "61b0997c6328b9bdbf8133c55060888aca435e372ff57d10088622410e8dfbe5", func := "samara/samaralaw10.MappingPlaces", spec := "mappingPlaces", unfollowed := true, recurses := true, apart := false }
def MappingPlacesSaid : Prop := mappingPlacesRow.holds Try.pinned (OpenSpec.ofChange mappingPlacesSpec)

/-- ITS FALSE NEIGHBOUR: 'it returns false'. Refute it at one input. -/
def mappingPlacesWrong : ChangeSpec := { name := "mappingPlaces", fn := fun _ => fun
  | [d1, d2, d3] => { results := [.lit (.bool false)], args := [d1, d2, d3] }
  | _ => none }
def MappingPlacesWrongFalsely : Prop := mappingPlacesRow.holds Try.pinned (OpenSpec.ofChange mappingPlacesWrong)

/-- 'samaralaw10.MappingFree': WHATEVER THE INPUT: true; the input reads as it did. -/
def mappingFreeSpec : ChangeSpec := { name := "mappingFree", fn := fun _ => fun
  | [d1, d2] => { results := [.lit (.bool true)], args := [d1, d2] }
  | _ => none }
def mappingFreeRow : OpenClaim := { program := "ytbcicjmepojlnaa", sum := "61b0997c6328b9bdbf8133c55060888aca435e372ff57d10088622410e8dfbe5", func := "samara/samaralaw10.MappingFree", spec := "mappingFree", unfollowed := true, recurses := true, apart := false }
def MappingFreeSaid : Prop := mappingFreeRow.holds Try.pinned (OpenSpec.ofChange mappingFreeSpec)

/-- ITS FALSE NEIGHBOUR: 'it returns false'. Refute it at one input. -/
def mappingFreeWrong : ChangeSpec := { name := "mappingFree", fn := fun _ => fun
  | [d1, d2] => { results := [.lit (.bool false)], args := [d1, d2] }
  | _ => none }
def MappingFreeWrongFalsely : Prop := mappingFreeRow.holds Try.pinned (OpenSpec.ofChange mappingFreeWrong)

/-- 'samaralaw12.RemapStays': WHATEVER THE INPUT: true; the input reads as it did. -/
def remapStaysSpec : ChangeSpec := { name := "remapStays", fn := fun _ => fun
  | [d1, d2] => { results := [.lit (.bool true)], args := [d1, d2] }
  | _ => none }
def remapStaysRow : OpenClaim := { program := "ytbcicjmepojlnaa", sum := "61b0997c6328b9bdbf8133c55060888aca435e372ff57d10088622410e8dfbe5", func := "samara/samaralaw12.RemapStays", spec := "remapStays", unfollowed := true, recurses := true, apart := false }
def RemapStaysSaid : Prop := remapStaysRow.holds Try.pinned (OpenSpec.ofChange remapStaysSpec)

/-- ITS FALSE NEIGHBOUR: 'it returns false'. Refute it at one input. -/
def remapStaysWrong : ChangeSpec := { name := "remapStays", fn := fun _ => fun
  | [d1, d2] => { results := [.lit (.bool false)], args := [d1, d2] }
  | _ => none }
def RemapStaysWrongFalsely : Prop := remapStaysRow.holds Try.pinned (OpenSpec.ofChange remapStaysWrong)

/-- 'samaralaw12.RemapThere': WHATEVER THE INPUT: true; the input reads as it did. -/
def remapThereSpec : ChangeSpec := { name := "remapThere", fn := fun _ => fun
  | [d1, d2, d3] => { results := [.lit (.bool true)], args := [d1, d2, d3] }
  | _ => none }
def remapThereRow : OpenClaim := { program := "ytbcicjmepojlnaa", sum := "61b0997c6328b9bdbf8133c55060888aca435e372ff57d10088622410e8dfbe5", func := "samara/samaralaw12.RemapThere", spec := "remapThere", unfollowed := true, recurses := true, apart := false }
def RemapThereSaid : Prop := remapThereRow.holds Try.pinned (OpenSpec.ofChange remapThereSpec)

/-- ITS FALSE NEIGHBOUR: 'it returns false'. Refute it at one input. -/
def remapThereWrong : ChangeSpec := { name := "remapThere", fn := fun _ => fun
  | [d1, d2, d3] => { results := [.lit (.bool false)], args := [d1, d2, d3] }
  | _ => none }
def RemapThereWrongFalsely : Prop := remapThereRow.holds Try.pinned (OpenSpec.ofChange remapThereWrong)

/-- 'samaralaw12.RemapDoes': WHATEVER THE INPUT: true; the input reads as it did. -/
def remapDoesSpec : ChangeSpec := { name := "remapDoes", fn := fun _ => fun
  | [d1, d2] => { results := [.lit (.bool true)], args := [d1, d2] }
  | _ => none }
def remapDoesRow : OpenClaim := { program := "ytbcicjmepojlnaa", sum := "61b0997c6328b9bdbf8133c55060888aca435e372ff57d10088622410e8dfbe5", func := "samara/samaralaw12.RemapDoes", spec := "remapDoes", unfollowed := true, recurses := true, apart := false }
def RemapDoesSaid : Prop := remapDoesRow.holds Try.pinned (OpenSpec.ofChange remapDoesSpec)

/-- ITS FALSE NEIGHBOUR: 'it returns false'. Refute it at one input. -/
def remapDoesWrong : ChangeSpec := { name := "remapDoes", fn := fun _ => fun
  | [d1, d2] => { results := [.lit (.bool false)], args := [d1, d2] }
  | _ => none }
def RemapDoesWrongFalsely : Prop := remapDoesRow.holds Try.pinned (OpenSpec.ofChange remapDoesWrong)

/-- 'samaralaw12.RemapWrong': WHATEVER THE INPUT: true; the input reads as it did. -/
def remapWrongSpec : ChangeSpec := { name := "remapWrong", fn := fun _ => fun
  | [d1, d2] => { results := [.lit (.bool true)], args := [d1, d2] }
  | _ => none }
def remapWrongRow : OpenClaim := { program := "ytbcicjmepojlnaa", sum := "61b0997c6328b9bdbf8133c55060888aca435e372ff57d10088622410e8dfbe5", func := "samara/samaralaw12.RemapWrong", spec := "remapWrong", unfollowed := true, recurses := true, apart := false }
def RemapWrongSaid : Prop := remapWrongRow.holds Try.pinned (OpenSpec.ofChange remapWrongSpec)

/-- ITS FALSE NEIGHBOUR: 'it returns false'. Refute it at one input. -/
def remapWrongWrong : ChangeSpec := { name := "remapWrong", fn := fun _ => fun
  | [d1, d2] => { results := [.lit (.bool false)], args := [d1, d2] }
  | _ => none }
def RemapWrongWrongFalsely : Prop := remapWrongRow.holds Try.pinned (OpenSpec.ofChange remapWrongWrong)

/-- 'samaralaw12.RemapKeeps': WHATEVER THE INPUT: true; the input reads as it did. -/
def remapKeepsSpec : ChangeSpec := { name := "remapKeeps", fn := fun _ => fun
  | [d1, d2] => { results := [.lit (.bool true)], args := [d1, d2] }
  | _ => none }
def remapKeepsRow : OpenClaim := { program := "ytbcicjmepojlnaa", sum := "61b0997c6328b9bdbf8133c55060888aca435e372ff57d10088622410e8dfbe5", func := "samara/samaralaw12.RemapKeeps", spec := "remapKeeps", unfollowed := true, recurses := true, apart := false }
def RemapKeepsSaid : Prop := remapKeepsRow.holds Try.pinned (OpenSpec.ofChange remapKeepsSpec)

/-- ITS FALSE NEIGHBOUR: 'it returns false'. Refute it at one input. -/
def remapKeepsWrong : ChangeSpec := { name := "remapKeeps", fn := fun _ => fun
  | [d1, d2] => { results := [.lit (.bool false)], args := [d1, d2] }
  | _ => none }
def RemapKeepsWrongFalsely : Prop := remapKeepsRow.holds Try.pinned (OpenSpec.ofChange remapKeepsWrong)

/-- 'samaralaw12.RemapOthers': WHATEVER THE INPUT: true; the input reads as it did. -/
def remapOthersSpec : ChangeSpec := { name := "remapOthers", fn := fun _ => fun
  | [d1, d2] => { results := [.lit (.bool true)], args := [d1, d2] }
  | _ => none }
def remapOthersRow : OpenClaim := { program := "ytbcicjmepojlnaa", sum := "61b0997c6328b9bdbf8133c55060888aca435e372ff57d10088622410e8dfbe5", func := "samara/samaralaw12.RemapOthers", spec := "remapOthers", unfollowed := true, recurses := true, apart := false }
def RemapOthersSaid : Prop := remapOthersRow.holds Try.pinned (OpenSpec.ofChange remapOthersSpec)

/-- ITS FALSE NEIGHBOUR: 'it returns false'. Refute it at one input. -/
def remapOthersWrong : ChangeSpec := { name := "remapOthers", fn := fun _ => fun
  | [d1, d2] => { results := [.lit (.bool false)], args := [d1, d2] }
  | _ => none }
def RemapOthersWrongFalsely : Prop := remapOthersRow.holds Try.pinned (OpenSpec.ofChange remapOthersWrong)

/-- 'samaralaw14.ChangeOwn': WHATEVER THE INPUT: true; the input reads as it did. -/
def changeOwnSpec : ChangeSpec := { name := "changeOwn", fn := fun _ => fun
  | [d1, d2] => { results := [.lit (.bool true)], args := [d1, d2] }
  | _ => none }
def changeOwnRow : OpenClaim := { program := "ytbcicjmepojlnaa", sum := "61b0997c6328b9bdbf8133c55060888aca435e372ff57d10088622410e8dfbe5", func := "samara/samaralaw14.ChangeOwn", spec := "changeOwn", unfollowed := true, recurses := true, apart := false }
def ChangeOwnSaid : Prop := changeOwnRow.holds Try.pinned (OpenSpec.ofChange changeOwnSpec)

/-- ITS FALSE NEIGHBOUR: 'it returns false'. Refute it at one input. -/
def changeOwnWrong : ChangeSpec := { name := "changeOwn", fn := fun _ => fun
  | [d1, d2] => { results := [.lit (.bool false)], args := [d1, d2] }
  | _ => none }
def ChangeOwnWrongFalsely : Prop := changeOwnRow.holds Try.pinned (OpenSpec.ofChange changeOwnWrong)

/-- 'samaralaw14.ChangeParts': WHATEVER THE INPUT: true; the input reads as it did. -/
def changePartsSpec : ChangeSpec := { name := "changeParts", fn := fun _ => fun
  | [d1, d2] => { results := [.lit (.bool true)], args := [d1, d2] }
  | _ => none }
def changePartsRow : OpenClaim := { program := "ytbcicjmepojlnaa", sum := "61b0997c6328b9bdbf8133c55060888aca435e372ff57d10088622410e8dfbe5", func := "samara/samaralaw14.ChangeParts", spec := "changeParts", unfollowed := true, recurses := true, apart := false }
def ChangePartsSaid : Prop := changePartsRow.holds Try.pinned (OpenSpec.ofChange changePartsSpec)

/-- ITS FALSE NEIGHBOUR: 'it returns false'. Refute it at one input. -/
def changePartsWrong : ChangeSpec := { name := "changeParts", fn := fun _ => fun
  | [d1, d2] => { results := [.lit (.bool false)], args := [d1, d2] }
  | _ => none }
def ChangePartsWrongFalsely : Prop := changePartsRow.holds Try.pinned (OpenSpec.ofChange changePartsWrong)

/-- 'samaralaw14.ChangeFaults': WHATEVER THE INPUT: true; the input reads as it did. -/
def changeFaultsSpec : ChangeSpec := { name := "changeFaults", fn := fun _ => fun
  | [d1, d2] => { results := [.lit (.bool true)], args := [d1, d2] }
  | _ => none }
def changeFaultsRow : OpenClaim := { program := "ytbcicjmepojlnaa", sum := "61b0997c6328b9bdbf8133c55060888aca435e372ff57d10088622410e8dfbe5", func := "samara/samaralaw14.ChangeFaults", spec := "changeFaults", unfollowed := true, recurses := true, apart := false }
def ChangeFaultsSaid : Prop := changeFaultsRow.holds Try.pinned (OpenSpec.ofChange changeFaultsSpec)

/-- ITS FALSE NEIGHBOUR: 'it returns false'. Refute it at one input. -/
def changeFaultsWrong : ChangeSpec := { name := "changeFaults", fn := fun _ => fun
  | [d1, d2] => { results := [.lit (.bool false)], args := [d1, d2] }
  | _ => none }
def ChangeFaultsWrongFalsely : Prop := changeFaultsRow.holds Try.pinned (OpenSpec.ofChange changeFaultsWrong)

/- THE SECOND FORM. 'bulk': how many values and letters a reading holds, each counted each time it is reached (what is shared counts as often as it is met; a slice's spare places count too). A statement '..UptoSaid' is the law's where the arguments, and the package variables that the reading takes, are together of bulk at most 1048576: NARROWER than '..Said'. Prove '..Said' where nothing that the law and all that it calls make is longer than what came in: it says more and counts as full. Else prove '..UptoSaid'. A law counts once. -/
mutual
def uptoBulk {H : Type} : DataW H → Nat
  | .lit (.string bytes) => bytes.length + 1
  | .lit _ => 1
  | .nil => 1
  | .ptr d => uptoBulk d + 1
  | .slice elems spare => uptoBulkAll elems + uptoBulkAll spare + 1
  | .agg parts => uptoBulkAll parts + 1
  | .iface _ d => uptoBulk d + 1
  | .map entries => uptoBulkEntries entries + 1
  | .held _ => 1
def uptoBulkAll {H : Type} : List (DataW H) → Nat
  | [] => 0
  | d :: r => uptoBulk d + uptoBulkAll r
def uptoBulkEntries {H : Type} : List (Lit × DataW H) → Nat
  | [] => 0
  | x :: r => uptoBulkEntry x + uptoBulkEntries r
def uptoBulkEntry {H : Type} : Lit × DataW H → Nat
  | (.string bytes, d) => bytes.length + uptoBulk d + 1
  | (_, d) => uptoBulk d + 1
 end
def uptoSmall : (H : Type) → List (DataW H) → Bool := fun _ ds => decide (uptoBulkAll ds ≤ 1048576)
def OpenSpec.upto (s : _root_.Go.ChangeSpec) : _root_.Go.OpenSpec := { _root_.Go.OpenSpec.ofChange s with cond := some uptoSmall }

/-- 'samaralaw11.ProtectFaults', WHERE WHAT IT READS IS OF BULK AT MOST 1048576: true; the input reads as it did. -/
def protectFaultsUptoRow : OpenClaim := { program := "ytbcicjmepojlnaa", sum := "61b0997c6328b9bdbf8133c55060888aca435e372ff57d10088622410e8dfbe5", func := "samara/samaralaw11.ProtectFaults", spec := "protectFaults", unfollowed := true, recurses := true, apart := false, narrowed := true }
def ProtectFaultsUptoSaid : Prop := protectFaultsUptoRow.holds Try.pinned (OpenSpec.upto protectFaultsSpec)

/-- 'samaralaw08.GapAll', WHERE WHAT IT READS IS OF BULK AT MOST 1048576: true; the input reads as it did. -/
def gapAllUptoRow : OpenClaim := { program := "ytbcicjmepojlnaa", sum := "61b0997c6328b9bdbf8133c55060888aca435e372ff57d10088622410e8dfbe5", func := "samara/samaralaw08.GapAll", spec := "gapAll", unfollowed := true, recurses := true, apart := false, narrowed := true }
def GapAllUptoSaid : Prop := gapAllUptoRow.holds Try.pinned (OpenSpec.upto gapAllSpec)

/-- 'samaralaw08.GapSums', WHERE WHAT IT READS IS OF BULK AT MOST 1048576: true; the input reads as it did. -/
def gapSumsUptoRow : OpenClaim := { program := "ytbcicjmepojlnaa", sum := "61b0997c6328b9bdbf8133c55060888aca435e372ff57d10088622410e8dfbe5", func := "samara/samaralaw08.GapSums", spec := "gapSums", unfollowed := true, recurses := true, apart := false, narrowed := true }
def GapSumsUptoSaid : Prop := gapSumsUptoRow.holds Try.pinned (OpenSpec.upto gapSumsSpec)

/-- 'samaralaw08.GapFits', WHERE WHAT IT READS IS OF BULK AT MOST 1048576: true; the input reads as it did. -/
def gapFitsUptoRow : OpenClaim := { program := "ytbcicjmepojlnaa", sum := "61b0997c6328b9bdbf8133c55060888aca435e372ff57d10088622410e8dfbe5", func := "samara/samaralaw08.GapFits", spec := "gapFits", unfollowed := true, recurses := true, apart := false, narrowed := true }
def GapFitsUptoSaid : Prop := gapFitsUptoRow.holds Try.pinned (OpenSpec.upto gapFitsSpec)

/-- 'samaralaw08.GapChooses', WHERE WHAT IT READS IS OF BULK AT MOST 1048576: true; the input reads as it did. -/
def gapChoosesUptoRow : OpenClaim := { program := "ytbcicjmepojlnaa", sum := "61b0997c6328b9bdbf8133c55060888aca435e372ff57d10088622410e8dfbe5", func := "samara/samaralaw08.GapChooses", spec := "gapChooses", unfollowed := true, recurses := true, apart := false, narrowed := true }
def GapChoosesUptoSaid : Prop := gapChoosesUptoRow.holds Try.pinned (OpenSpec.upto gapChoosesSpec)

/-- 'samaralaw08.GapWrong', WHERE WHAT IT READS IS OF BULK AT MOST 1048576: true; the input reads as it did. -/
def gapWrongUptoRow : OpenClaim := { program := "ytbcicjmepojlnaa", sum := "61b0997c6328b9bdbf8133c55060888aca435e372ff57d10088622410e8dfbe5", func := "samara/samaralaw08.GapWrong", spec := "gapWrong", unfollowed := true, recurses := true, apart := false, narrowed := true }
def GapWrongUptoSaid : Prop := gapWrongUptoRow.holds Try.pinned (OpenSpec.upto gapWrongSpec)

/-- 'samaralaw08.GapExact', WHERE WHAT IT READS IS OF BULK AT MOST 1048576: true; the input reads as it did. -/
def gapExactUptoRow : OpenClaim := { program := "ytbcicjmepojlnaa", sum := "61b0997c6328b9bdbf8133c55060888aca435e372ff57d10088622410e8dfbe5", func := "samara/samaralaw08.GapExact", spec := "gapExact", unfollowed := true, recurses := true, apart := false, narrowed := true }
def GapExactUptoSaid : Prop := gapExactUptoRow.holds Try.pinned (OpenSpec.upto gapExactSpec)

/-- 'samaralaw07.ListApart', WHERE WHAT IT READS IS OF BULK AT MOST 1048576: true; the input reads as it did. -/
def listApartUptoRow : OpenClaim := { program := "ytbcicjmepojlnaa", sum := "61b0997c6328b9bdbf8133c55060888aca435e372ff57d10088622410e8dfbe5", func := "samara/samaralaw07.ListApart", spec := "listApart", apart := false, narrowed := true }
def ListApartUptoSaid : Prop := listApartUptoRow.holds Try.pinned (OpenSpec.upto listApartSpec)

/-- 'samaralaw07.ListPuts', WHERE WHAT IT READS IS OF BULK AT MOST 1048576: true; the input reads as it did. -/
def listPutsUptoRow : OpenClaim := { program := "ytbcicjmepojlnaa", sum := "61b0997c6328b9bdbf8133c55060888aca435e372ff57d10088622410e8dfbe5", func := "samara/samaralaw07.ListPuts", spec := "listPuts", apart := false, narrowed := true }
def ListPutsUptoSaid : Prop := listPutsUptoRow.holds Try.pinned (OpenSpec.upto listPutsSpec)

/-- 'samaralaw07.ListUndone', WHERE WHAT IT READS IS OF BULK AT MOST 1048576: true; the input reads as it did. -/
def listUndoneUptoRow : OpenClaim := { program := "ytbcicjmepojlnaa", sum := "61b0997c6328b9bdbf8133c55060888aca435e372ff57d10088622410e8dfbe5", func := "samara/samaralaw07.ListUndone", spec := "listUndone", apart := false, narrowed := true }
def ListUndoneUptoSaid : Prop := listUndoneUptoRow.holds Try.pinned (OpenSpec.upto listUndoneSpec)

/-- 'samaralaw07.ListTwice', WHERE WHAT IT READS IS OF BULK AT MOST 1048576: true; the input reads as it did. -/
def listTwiceUptoRow : OpenClaim := { program := "ytbcicjmepojlnaa", sum := "61b0997c6328b9bdbf8133c55060888aca435e372ff57d10088622410e8dfbe5", func := "samara/samaralaw07.ListTwice", spec := "listTwice", apart := false, narrowed := true }
def ListTwiceUptoSaid : Prop := listTwiceUptoRow.holds Try.pinned (OpenSpec.upto listTwiceSpec)

/-- 'samaralaw07.ListOwn', WHERE WHAT IT READS IS OF BULK AT MOST 1048576: true; the input reads as it did. -/
def listOwnUptoRow : OpenClaim := { program := "ytbcicjmepojlnaa", sum := "61b0997c6328b9bdbf8133c55060888aca435e372ff57d10088622410e8dfbe5", func := "samara/samaralaw07.ListOwn", spec := "listOwn", apart := false, narrowed := true }
def ListOwnUptoSaid : Prop := listOwnUptoRow.holds Try.pinned (OpenSpec.upto listOwnSpec)

/-- 'samaralaw08.GapTaken', WHERE WHAT IT READS IS OF BULK AT MOST 1048576: true; the input reads as it did. -/
def gapTakenUptoRow : OpenClaim := { program := "ytbcicjmepojlnaa", sum := "61b0997c6328b9bdbf8133c55060888aca435e372ff57d10088622410e8dfbe5", func := "samara/samaralaw08.GapTaken", spec := "gapTaken", unfollowed := true, recurses := true, apart := false, narrowed := true }
def GapTakenUptoSaid : Prop := gapTakenUptoRow.holds Try.pinned (OpenSpec.upto gapTakenSpec)

/-- 'samaralaw07.ListRight', WHERE WHAT IT READS IS OF BULK AT MOST 1048576: true; the input reads as it did. -/
def listRightUptoRow : OpenClaim := { program := "ytbcicjmepojlnaa", sum := "61b0997c6328b9bdbf8133c55060888aca435e372ff57d10088622410e8dfbe5", func := "samara/samaralaw07.ListRight", spec := "listRight", unfollowed := true, recurses := true, apart := false, narrowed := true }
def ListRightUptoSaid : Prop := listRightUptoRow.holds Try.pinned (OpenSpec.upto listRightSpec)

/-- 'samaralaw13.BrkTwice', WHERE WHAT IT READS IS OF BULK AT MOST 1048576: true; the input reads as it did. -/
def brkTwiceUptoRow : OpenClaim := { program := "ytbcicjmepojlnaa", sum := "61b0997c6328b9bdbf8133c55060888aca435e372ff57d10088622410e8dfbe5", func := "samara/samaralaw13.BrkTwice", spec := "brkTwice", unfollowed := true, recurses := true, apart := false, narrowed := true }
def BrkTwiceUptoSaid : Prop := brkTwiceUptoRow.holds Try.pinned (OpenSpec.upto brkTwiceSpec)

/-- 'samaralaw13.BrkMoves', WHERE WHAT IT READS IS OF BULK AT MOST 1048576: true; the input reads as it did. -/
def brkMovesUptoRow : OpenClaim := { program := "ytbcicjmepojlnaa", sum := "61b0997c6328b9bdbf8133c55060888aca435e372ff57d10088622410e8dfbe5", func := "samara/samaralaw13.BrkMoves", spec := "brkMoves", unfollowed := true, recurses := true, apart := false, narrowed := true }
def BrkMovesUptoSaid : Prop := brkMovesUptoRow.holds Try.pinned (OpenSpec.upto brkMovesSpec)

/-- 'samaralaw13.BrkWrong', WHERE WHAT IT READS IS OF BULK AT MOST 1048576: true; the input reads as it did. -/
def brkWrongUptoRow : OpenClaim := { program := "ytbcicjmepojlnaa", sum := "61b0997c6328b9bdbf8133c55060888aca435e372ff57d10088622410e8dfbe5", func := "samara/samaralaw13.BrkWrong", spec := "brkWrong", unfollowed := true, recurses := true, apart := false, narrowed := true }
def BrkWrongUptoSaid : Prop := brkWrongUptoRow.holds Try.pinned (OpenSpec.upto brkWrongSpec)

/-- 'samaralaw13.BrkBack', WHERE WHAT IT READS IS OF BULK AT MOST 1048576: true; the input reads as it did. -/
def brkBackUptoRow : OpenClaim := { program := "ytbcicjmepojlnaa", sum := "61b0997c6328b9bdbf8133c55060888aca435e372ff57d10088622410e8dfbe5", func := "samara/samaralaw13.BrkBack", spec := "brkBack", unfollowed := true, recurses := true, apart := false, narrowed := true }
def BrkBackUptoSaid : Prop := brkBackUptoRow.holds Try.pinned (OpenSpec.upto brkBackSpec)

/-- 'samaralaw13.BrkSteps', WHERE WHAT IT READS IS OF BULK AT MOST 1048576: true; the input reads as it did. -/
def brkStepsUptoRow : OpenClaim := { program := "ytbcicjmepojlnaa", sum := "61b0997c6328b9bdbf8133c55060888aca435e372ff57d10088622410e8dfbe5", func := "samara/samaralaw13.BrkSteps", spec := "brkSteps", unfollowed := true, recurses := true, apart := false, narrowed := true }
def BrkStepsUptoSaid : Prop := brkStepsUptoRow.holds Try.pinned (OpenSpec.upto brkStepsSpec)

/-- 'samaralaw11.ProtectHalves', WHERE WHAT IT READS IS OF BULK AT MOST 1048576: true; the input reads as it did. -/
def protectHalvesUptoRow : OpenClaim := { program := "ytbcicjmepojlnaa", sum := "61b0997c6328b9bdbf8133c55060888aca435e372ff57d10088622410e8dfbe5", func := "samara/samaralaw11.ProtectHalves", spec := "protectHalves", unfollowed := true, recurses := true, apart := false, narrowed := true }
def ProtectHalvesUptoSaid : Prop := protectHalvesUptoRow.holds Try.pinned (OpenSpec.upto protectHalvesSpec)

/-- 'samaralaw11.ProtectSets', WHERE WHAT IT READS IS OF BULK AT MOST 1048576: true; the input reads as it did. -/
def protectSetsUptoRow : OpenClaim := { program := "ytbcicjmepojlnaa", sum := "61b0997c6328b9bdbf8133c55060888aca435e372ff57d10088622410e8dfbe5", func := "samara/samaralaw11.ProtectSets", spec := "protectSets", unfollowed := true, recurses := true, apart := false, narrowed := true }
def ProtectSetsUptoSaid : Prop := protectSetsUptoRow.holds Try.pinned (OpenSpec.upto protectSetsSpec)

/-- 'samaralaw11.ProtectWrong', WHERE WHAT IT READS IS OF BULK AT MOST 1048576: true; the input reads as it did. -/
def protectWrongUptoRow : OpenClaim := { program := "ytbcicjmepojlnaa", sum := "61b0997c6328b9bdbf8133c55060888aca435e372ff57d10088622410e8dfbe5", func := "samara/samaralaw11.ProtectWrong", spec := "protectWrong", unfollowed := true, recurses := true, apart := false, narrowed := true }
def ProtectWrongUptoSaid : Prop := protectWrongUptoRow.holds Try.pinned (OpenSpec.upto protectWrongSpec)

/-- 'samaralaw11.ProtectAllows', WHERE WHAT IT READS IS OF BULK AT MOST 1048576: true; the input reads as it did. -/
def protectAllowsUptoRow : OpenClaim := { program := "ytbcicjmepojlnaa", sum := "61b0997c6328b9bdbf8133c55060888aca435e372ff57d10088622410e8dfbe5", func := "samara/samaralaw11.ProtectAllows", spec := "protectAllows", unfollowed := true, recurses := true, apart := false, narrowed := true }
def ProtectAllowsUptoSaid : Prop := protectAllowsUptoRow.holds Try.pinned (OpenSpec.upto protectAllowsSpec)

/-- 'samaralaw11.ProtectBack', WHERE WHAT IT READS IS OF BULK AT MOST 1048576: true; the input reads as it did. -/
def protectBackUptoRow : OpenClaim := { program := "ytbcicjmepojlnaa", sum := "61b0997c6328b9bdbf8133c55060888aca435e372ff57d10088622410e8dfbe5", func := "samara/samaralaw11.ProtectBack", spec := "protectBack", unfollowed := true, recurses := true, apart := false, narrowed := true }
def ProtectBackUptoSaid : Prop := protectBackUptoRow.holds Try.pinned (OpenSpec.upto protectBackSpec)

/-- 'samaralaw10.MappingAgain', WHERE WHAT IT READS IS OF BULK AT MOST 1048576: true; the input reads as it did. -/
def mappingAgainUptoRow : OpenClaim := { program := "ytbcicjmepojlnaa", sum := "61b0997c6328b9bdbf8133c55060888aca435e372ff57d10088622410e8dfbe5", func := "samara/samaralaw10.MappingAgain", spec := "mappingAgain", unfollowed := true, recurses := true, apart := false, narrowed := true }
def MappingAgainUptoSaid : Prop := mappingAgainUptoRow.holds Try.pinned (OpenSpec.upto mappingAgainSpec)

/-- 'samaralaw10.MappingHint', WHERE WHAT IT READS IS OF BULK AT MOST 1048576: true; the input reads as it did. -/
def mappingHintUptoRow : OpenClaim := { program := "ytbcicjmepojlnaa", sum := "61b0997c6328b9bdbf8133c55060888aca435e372ff57d10088622410e8dfbe5", func := "samara/samaralaw10.MappingHint", spec := "mappingHint", unfollowed := true, recurses := true, apart := false, narrowed := true }
def MappingHintUptoSaid : Prop := mappingHintUptoRow.holds Try.pinned (OpenSpec.upto mappingHintSpec)

/-- 'samaralaw10.MappingMaps', WHERE WHAT IT READS IS OF BULK AT MOST 1048576: true; the input reads as it did. -/
def mappingMapsUptoRow : OpenClaim := { program := "ytbcicjmepojlnaa", sum := "61b0997c6328b9bdbf8133c55060888aca435e372ff57d10088622410e8dfbe5", func := "samara/samaralaw10.MappingMaps", spec := "mappingMaps", unfollowed := true, recurses := true, apart := false, narrowed := true }
def MappingMapsUptoSaid : Prop := mappingMapsUptoRow.holds Try.pinned (OpenSpec.upto mappingMapsSpec)

/-- 'samaralaw10.MappingUnmaps', WHERE WHAT IT READS IS OF BULK AT MOST 1048576: true; the input reads as it did. -/
def mappingUnmapsUptoRow : OpenClaim := { program := "ytbcicjmepojlnaa", sum := "61b0997c6328b9bdbf8133c55060888aca435e372ff57d10088622410e8dfbe5", func := "samara/samaralaw10.MappingUnmaps", spec := "mappingUnmaps", unfollowed := true, recurses := true, apart := false, narrowed := true }
def MappingUnmapsUptoSaid : Prop := mappingUnmapsUptoRow.holds Try.pinned (OpenSpec.upto mappingUnmapsSpec)

/-- 'samaralaw10.MappingPlaces', WHERE WHAT IT READS IS OF BULK AT MOST 1048576: true; the input reads as it did. -/
def mappingPlacesUptoRow : OpenClaim := { program := "ytbcicjmepojlnaa", sum := "61b0997c6328b9bdbf8133c55060888aca435e372ff57d10088622410e8dfbe5", func := "samara/samaralaw10.MappingPlaces", spec := "mappingPlaces", unfollowed := true, recurses := true, apart := false, narrowed := true }
def MappingPlacesUptoSaid : Prop := mappingPlacesUptoRow.holds Try.pinned (OpenSpec.upto mappingPlacesSpec)

/-- 'samaralaw10.MappingFree', WHERE WHAT IT READS IS OF BULK AT MOST 1048576: true; the input reads as it did. -/
def mappingFreeUptoRow : OpenClaim := { program := "ytbcicjmepojlnaa", sum := "61b0997c6328b9bdbf8133c55060888aca435e372ff57d10088622410e8dfbe5", func := "samara/samaralaw10.MappingFree", spec := "mappingFree", unfollowed := true, recurses := true, apart := false, narrowed := true }
def MappingFreeUptoSaid : Prop := mappingFreeUptoRow.holds Try.pinned (OpenSpec.upto mappingFreeSpec)

/-- 'samaralaw12.RemapStays', WHERE WHAT IT READS IS OF BULK AT MOST 1048576: true; the input reads as it did. -/
def remapStaysUptoRow : OpenClaim := { program := "ytbcicjmepojlnaa", sum := "61b0997c6328b9bdbf8133c55060888aca435e372ff57d10088622410e8dfbe5", func := "samara/samaralaw12.RemapStays", spec := "remapStays", unfollowed := true, recurses := true, apart := false, narrowed := true }
def RemapStaysUptoSaid : Prop := remapStaysUptoRow.holds Try.pinned (OpenSpec.upto remapStaysSpec)

/-- 'samaralaw12.RemapThere', WHERE WHAT IT READS IS OF BULK AT MOST 1048576: true; the input reads as it did. -/
def remapThereUptoRow : OpenClaim := { program := "ytbcicjmepojlnaa", sum := "61b0997c6328b9bdbf8133c55060888aca435e372ff57d10088622410e8dfbe5", func := "samara/samaralaw12.RemapThere", spec := "remapThere", unfollowed := true, recurses := true, apart := false, narrowed := true }
def RemapThereUptoSaid : Prop := remapThereUptoRow.holds Try.pinned (OpenSpec.upto remapThereSpec)

/-- 'samaralaw12.RemapDoes', WHERE WHAT IT READS IS OF BULK AT MOST 1048576: true; the input reads as it did. -/
def remapDoesUptoRow : OpenClaim := { program := "ytbcicjmepojlnaa", sum := "61b0997c6328b9bdbf8133c55060888aca435e372ff57d10088622410e8dfbe5", func := "samara/samaralaw12.RemapDoes", spec := "remapDoes", unfollowed := true, recurses := true, apart := false, narrowed := true }
def RemapDoesUptoSaid : Prop := remapDoesUptoRow.holds Try.pinned (OpenSpec.upto remapDoesSpec)

/-- 'samaralaw12.RemapWrong', WHERE WHAT IT READS IS OF BULK AT MOST 1048576: true; the input reads as it did. -/
def remapWrongUptoRow : OpenClaim := { program := "ytbcicjmepojlnaa", sum := "61b0997c6328b9bdbf8133c55060888aca435e372ff57d10088622410e8dfbe5", func := "samara/samaralaw12.RemapWrong", spec := "remapWrong", unfollowed := true, recurses := true, apart := false, narrowed := true }
def RemapWrongUptoSaid : Prop := remapWrongUptoRow.holds Try.pinned (OpenSpec.upto remapWrongSpec)

/-- 'samaralaw12.RemapKeeps', WHERE WHAT IT READS IS OF BULK AT MOST 1048576: true; the input reads as it did. -/
def remapKeepsUptoRow : OpenClaim := { program := "ytbcicjmepojlnaa", sum := "61b0997c6328b9bdbf8133c55060888aca435e372ff57d10088622410e8dfbe5", func := "samara/samaralaw12.RemapKeeps", spec := "remapKeeps", unfollowed := true, recurses := true, apart := false, narrowed := true }
def RemapKeepsUptoSaid : Prop := remapKeepsUptoRow.holds Try.pinned (OpenSpec.upto remapKeepsSpec)

/-- 'samaralaw12.RemapOthers', WHERE WHAT IT READS IS OF BULK AT MOST 1048576: true; the input reads as it did. -/
def remapOthersUptoRow : OpenClaim := { program := "ytbcicjmepojlnaa", sum := "61b0997c6328b9bdbf8133c55060888aca435e372ff57d10088622410e8dfbe5", func := "samara/samaralaw12.RemapOthers", spec := "remapOthers", unfollowed := true, recurses := true, apart := false, narrowed := true }
def RemapOthersUptoSaid : Prop := remapOthersUptoRow.holds Try.pinned (OpenSpec.upto remapOthersSpec)

/-- 'samaralaw14.ChangeOwn', WHERE WHAT IT READS IS OF BULK AT MOST 1048576: true; the input reads as it did. -/
def changeOwnUptoRow : OpenClaim := { program := "ytbcicjmepojlnaa", sum := "61b0997c6328b9bdbf8133c55060888aca435e372ff57d10088622410e8dfbe5", func := "samara/samaralaw14.ChangeOwn", spec := "changeOwn", unfollowed := true, recurses := true, apart := false, narrowed := true }
def ChangeOwnUptoSaid : Prop := changeOwnUptoRow.holds Try.pinned (OpenSpec.upto changeOwnSpec)

/-- 'samaralaw14.ChangeParts', WHERE WHAT IT READS IS OF BULK AT MOST 1048576: true; the input reads as it did. -/
def changePartsUptoRow : OpenClaim := { program := "ytbcicjmepojlnaa", sum := "61b0997c6328b9bdbf8133c55060888aca435e372ff57d10088622410e8dfbe5", func := "samara/samaralaw14.ChangeParts", spec := "changeParts", unfollowed := true, recurses := true, apart := false, narrowed := true }
def ChangePartsUptoSaid : Prop := changePartsUptoRow.holds Try.pinned (OpenSpec.upto changePartsSpec)

/-- 'samaralaw14.ChangeFaults', WHERE WHAT IT READS IS OF BULK AT MOST 1048576: true; the input reads as it did. -/
def changeFaultsUptoRow : OpenClaim := { program := "ytbcicjmepojlnaa", sum := "61b0997c6328b9bdbf8133c55060888aca435e372ff57d10088622410e8dfbe5", func := "samara/samaralaw14.ChangeFaults", spec := "changeFaults", unfollowed := true, recurses := true, apart := false, narrowed := true }
def ChangeFaultsUptoSaid : Prop := changeFaultsUptoRow.holds Try.pinned (OpenSpec.upto changeFaultsSpec)

end Rows
end Go.Proofs.Ytbcicjmepojlnaa
