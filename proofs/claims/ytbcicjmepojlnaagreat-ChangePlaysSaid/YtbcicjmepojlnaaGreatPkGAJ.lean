/- Texts of this work, laid together: symbolic execution over the model, contracts of the program's functions, what they come to; conditions: as each says. -/
import Derived.Test.YtbcicjmepojlnaaGreatProg
import Derived.KernelRfl
import Derived.Test.YtbcicjmepojlnaaGreatPkGAE
import Derived.Test.YtbcicjmepojlnaaGreatPkGAH
import Derived.Test.YtbcicjmepojlnaaGreatPkGAI
/- Closed facts on the types of the program; no condition. -/
namespace Go.Proofs.YtbcicjmepojlnaaGreat.Eng
open Go Go.RowKit
set_option linter.unusedVariables false
set_option maxRecDepth 100000
set_option linter.unusedSimpArgs false
theorem mixed : Tryz.prog.follows .mixedOrders = true := by kernel_rfl
theorem sz2 : szT Tryz.prog 2 = some (false, 1) := by kernel_rfl
theorem ze2 : zeroT Tryz.prog 2 = some [.v (.int .i64 0)] := by kernel_rfl
theorem in2 : intT Tryz.prog 2 = some .i64 := by kernel_rfl
theorem sz3 : szT Tryz.prog 3 = some (false, 1) := by kernel_rfl
theorem ze3 : zeroT Tryz.prog 3 = some [.v (.int .i64 0)] := by kernel_rfl
theorem in3 : intT Tryz.prog 3 = some .i64 := by kernel_rfl
theorem sz4 : szT Tryz.prog 4 = some (false, 1) := by kernel_rfl
theorem ze4 : zeroT Tryz.prog 4 = some [.v (.bool false)] := by kernel_rfl
theorem un4 : Tryz.prog.underlying 4 = some .bool := by kernel_rfl
theorem sz5 : szT Tryz.prog 5 = some (false, 1) := by kernel_rfl
theorem ze5 : zeroT Tryz.prog 5 = some [.v (.int .u8 0)] := by kernel_rfl
theorem in5 : intT Tryz.prog 5 = some .u8 := by kernel_rfl
theorem sz22 : szT Tryz.prog 22 = some (false, 1) := by kernel_rfl
theorem ze22 : zeroT Tryz.prog 22 = some [.sl nilId none 0 0] := by kernel_rfl
theorem sl22 : slT Tryz.prog 22 = some (37, 9, 72, 9) := by kernel_rfl
theorem sz24 : szT Tryz.prog 24 = some (false, 1) := by kernel_rfl
theorem ze24 : zeroT Tryz.prog 24 = some [.sl nilId none 0 0] := by kernel_rfl
theorem sl24 : slT Tryz.prog 24 = some (49, 6, 48, 6) := by kernel_rfl
theorem un24 : Tryz.prog.underlying 24 = some (.slice 49) := by kernel_rfl
theorem sz26 : szT Tryz.prog 26 = some (true, 2) := by kernel_rfl
theorem ze26 : zeroT Tryz.prog 26 = some [.sl nilId none 0 0, .v (.int .i64 0)] := by kernel_rfl
theorem fi26_0 : fieldT Tryz.prog 26 0 = some 0 := by kernel_rfl
theorem fi26_1 : fieldT Tryz.prog 26 1 = some 1 := by kernel_rfl
theorem pl26 : placesT Tryz.prog 26 = some [(0, 1), (1, 1)] := by kernel_rfl
theorem sz28 : szT Tryz.prog 28 = some (true, 2) := by kernel_rfl
theorem ze28 : zeroT Tryz.prog 28 = some [.sl nilId none 0 0, .v (.int .i64 0)] := by kernel_rfl
theorem fi28_0 : fieldT Tryz.prog 28 0 = some 0 := by kernel_rfl
theorem fi28_1 : fieldT Tryz.prog 28 1 = some 1 := by kernel_rfl
theorem pl28 : placesT Tryz.prog 28 = some [(0, 1), (1, 1)] := by kernel_rfl
theorem sz29 : szT Tryz.prog 29 = some (false, 1) := by kernel_rfl
theorem ze29 : zeroT Tryz.prog 29 = some [.v (.int .i64 0)] := by kernel_rfl
theorem in29 : intT Tryz.prog 29 = some .i64 := by kernel_rfl
theorem sz31 : szT Tryz.prog 31 = some (true, 4) := by kernel_rfl
theorem ze31 : zeroT Tryz.prog 31 = some [.v (.int .i64 0), .v (.bool false), .v (.int .i64 0), .v (.int .i64 0)] := by kernel_rfl
theorem fi31_0 : fieldT Tryz.prog 31 0 = some 0 := by kernel_rfl
theorem fi31_1 : fieldT Tryz.prog 31 1 = some 1 := by kernel_rfl
theorem fi31_2 : fieldT Tryz.prog 31 2 = some 2 := by kernel_rfl
theorem fi31_3 : fieldT Tryz.prog 31 3 = some 3 := by kernel_rfl
theorem pl31 : placesT Tryz.prog 31 = some [(0, 1), (1, 1), (2, 1), (3, 1)] := by kernel_rfl
theorem sz33 : szT Tryz.prog 33 = some (true, 6) := by kernel_rfl
theorem ze33 : zeroT Tryz.prog 33 = some [.v (.int .i64 0), .v (.int .i64 0), .v (.int .i64 0), .v (.bool false), .v (.int .i64 0), .v (.int .i64 0)] := by kernel_rfl
theorem fi33_0 : fieldT Tryz.prog 33 0 = some 0 := by kernel_rfl
theorem fi33_1 : fieldT Tryz.prog 33 1 = some 1 := by kernel_rfl
theorem fi33_2 : fieldT Tryz.prog 33 2 = some 2 := by kernel_rfl
theorem pl33 : placesT Tryz.prog 33 = some [(0, 1), (1, 1), (2, 4)] := by kernel_rfl
theorem sz37 : szT Tryz.prog 37 = some (true, 9) := by kernel_rfl
theorem ze37 : zeroT Tryz.prog 37 = some [.v (.int .i64 0), .v (.int .i64 0), .v (.int .i64 0), .v (.int .i64 0), .v (.int .i64 0), .v (.int .i64 0), .v (.int .i64 0), .v (.int .i64 0), .v (.int .i64 0)] := by kernel_rfl
theorem fi37_0 : fieldT Tryz.prog 37 0 = some 0 := by kernel_rfl
theorem fi37_1 : fieldT Tryz.prog 37 1 = some 1 := by kernel_rfl
theorem fi37_2 : fieldT Tryz.prog 37 2 = some 2 := by kernel_rfl
theorem fi37_3 : fieldT Tryz.prog 37 3 = some 3 := by kernel_rfl
theorem fi37_4 : fieldT Tryz.prog 37 4 = some 4 := by kernel_rfl
theorem fi37_5 : fieldT Tryz.prog 37 5 = some 5 := by kernel_rfl
theorem fi37_6 : fieldT Tryz.prog 37 6 = some 6 := by kernel_rfl
theorem fi37_7 : fieldT Tryz.prog 37 7 = some 7 := by kernel_rfl
theorem fi37_8 : fieldT Tryz.prog 37 8 = some 8 := by kernel_rfl
theorem pl37 : placesT Tryz.prog 37 = some [(0, 1), (1, 1), (2, 1), (3, 1), (4, 1), (5, 1), (6, 1), (7, 1), (8, 1)] := by kernel_rfl
theorem sz43 : szT Tryz.prog 43 = some (false, 1) := by kernel_rfl
theorem ze43 : zeroT Tryz.prog 43 = some [.sl nilId none 0 0] := by kernel_rfl
theorem sl43 : slT Tryz.prog 43 = some (33, 6, 48, 6) := by kernel_rfl
theorem sz49 : szT Tryz.prog 49 = some (true, 6) := by kernel_rfl
theorem ze49 : zeroT Tryz.prog 49 = some [.v (.int .i64 0), .v (.int .i64 0), .v (.int .i64 0), .v (.bool false), .v (.int .i64 0), .v (.int .i64 0)] := by kernel_rfl
theorem fi49_0 : fieldT Tryz.prog 49 0 = some 0 := by kernel_rfl
theorem fi49_1 : fieldT Tryz.prog 49 1 = some 1 := by kernel_rfl
theorem fi49_2 : fieldT Tryz.prog 49 2 = some 2 := by kernel_rfl
theorem fi49_3 : fieldT Tryz.prog 49 3 = some 3 := by kernel_rfl
theorem fi49_4 : fieldT Tryz.prog 49 4 = some 4 := by kernel_rfl
theorem fi49_5 : fieldT Tryz.prog 49 5 = some 5 := by kernel_rfl
theorem pl49 : placesT Tryz.prog 49 = some [(0, 1), (1, 1), (2, 1), (3, 1), (4, 1), (5, 1)] := by kernel_rfl
theorem sz70 : szT Tryz.prog 70 = some (false, 1) := by kernel_rfl
theorem ze70 : zeroT Tryz.prog 70 = some [.v (.pointer none)] := by kernel_rfl
theorem un70 : Tryz.prog.underlying 70 = some (.pointer 72) := by kernel_rfl
theorem sz72 : szT Tryz.prog 72 = some (true, 25) := by kernel_rfl
theorem ze72 : zeroT Tryz.prog 72 = some [.sl nilId none 0 0, .v (.int .i64 0), .v (.int .i64 0), .v (.int .i64 0), .v (.int .i64 0), .v (.int .i64 0), .v (.int .i64 0), .v (.int .i64 0), .v (.int .i64 0), .v (.int .i64 0), .v (.int .i64 0), .v (.int .i64 0), .v (.int .i64 0), .v (.int .i64 0), .v (.int .i64 0), .v (.int .i64 0), .v (.bool false), .v (.int .i64 0), .v (.int .i64 0), .v (.int .i64 0), .v (.int .i64 0), .v (.int .i64 0), .v (.bool false), .v (.int .i64 0), .v (.int .i64 0)] := by kernel_rfl
theorem fi72_0 : fieldT Tryz.prog 72 0 = some 0 := by kernel_rfl
theorem fi72_1 : fieldT Tryz.prog 72 1 = some 1 := by kernel_rfl
theorem fi72_2 : fieldT Tryz.prog 72 2 = some 10 := by kernel_rfl
theorem fi72_3 : fieldT Tryz.prog 72 3 = some 11 := by kernel_rfl
theorem fi72_4 : fieldT Tryz.prog 72 4 = some 12 := by kernel_rfl
theorem fi72_5 : fieldT Tryz.prog 72 5 = some 13 := by kernel_rfl
theorem fi72_6 : fieldT Tryz.prog 72 6 = some 19 := by kernel_rfl
theorem pl72 : placesT Tryz.prog 72 = some [(0, 1), (1, 9), (10, 1), (11, 1), (12, 1), (13, 6), (19, 6)] := by kernel_rfl
theorem sz88 : szT Tryz.prog 88 = some (true, 5) := by kernel_rfl
theorem ze88 : zeroT Tryz.prog 88 = some [.v (.bool false), .v (.int .i64 0), .v (.bool false), .v (.int .i64 0), .v (.int .i64 0)] := by kernel_rfl
theorem fi88_0 : fieldT Tryz.prog 88 0 = some 0 := by kernel_rfl
theorem fi88_1 : fieldT Tryz.prog 88 1 = some 1 := by kernel_rfl
theorem pl88 : placesT Tryz.prog 88 = some [(0, 1), (1, 4)] := by kernel_rfl
theorem sz90 : szT Tryz.prog 90 = some (true, 2560) := by kernel_rfl
theorem zr90 : zeroT Tryz.prog 90 = some (List.replicate 512 [.v (.bool false), .v (.int .i64 0), .v (.bool false), .v (.int .i64 0), .v (.int .i64 0)]).flatten := by kernel_rfl
theorem ar90 : arrT Tryz.prog 90 = some (512, 5) := by kernel_rfl
theorem sz114 : szT Tryz.prog 114 = some (false, 1) := by kernel_rfl
theorem ze114 : zeroT Tryz.prog 114 = some [.sl nilId none 0 0] := by kernel_rfl
theorem sl114 : slT Tryz.prog 114 = some (117, 2, 16, 2) := by kernel_rfl
theorem sz117 : szT Tryz.prog 117 = some (true, 2) := by kernel_rfl
theorem ze117 : zeroT Tryz.prog 117 = some [.v (.int .i64 0), .v (.int .i64 0)] := by kernel_rfl
theorem fi117_0 : fieldT Tryz.prog 117 0 = some 0 := by kernel_rfl
theorem fi117_1 : fieldT Tryz.prog 117 1 = some 1 := by kernel_rfl
theorem pl117 : placesT Tryz.prog 117 = some [(0, 1), (1, 1)] := by kernel_rfl
theorem sz123 : szT Tryz.prog 123 = some (false, 1) := by kernel_rfl
theorem ze123 : zeroT Tryz.prog 123 = some [.sl nilId none 0 0] := by kernel_rfl
theorem sl123 : slT Tryz.prog 123 = some (24, 1, 24, 1) := by kernel_rfl
theorem eqD31 (d : Nat) (x0 y0 : Int) (x1 y1 : Bool) (x2 y2 : Int) (x3 y3 : Int) (w : World) : (Op.equalIn (d + 2) 31 (.agg #[.int .i64 x0, .bool x1, .int .i64 x2, .int .i64 x3]) (.agg #[.int .i64 y0, .bool y1, .int .i64 y2, .int .i64 y3])).run Tryz.prog w = .ok ((x0 == y0) && ((x1 == y1) && ((x2 == y2) && ((x3 == y3) && true)))) w := by
  refine sEq_of Tryz.underlying31 (by kernel_rfl) ?_
  refine sEq_cons (by decide) (sPart_one sz3 rfl) (sPart_one sz3 rfl) (sEq_int in3) ?_
  refine sEq_cons (by decide) (sPart_one sz4 rfl) (sPart_one sz4 rfl) (sEq_bool un4) ?_
  refine sEq_cons (by decide) (sPart_one sz3 rfl) (sPart_one sz3 rfl) (sEq_int in3) ?_
  refine sEq_cons (by decide) (sPart_one sz2 rfl) (sPart_one sz2 rfl) (sEq_int in2) ?_
  exact sEq_nil
theorem eqT31 (xs ys : List C) (r : Bool) (h0 : eqCells [.int .i64, .bool, .int .i64, .int .i64] xs ys = some r) : EqFact Tryz.prog 31 xs ys r := by
  obtain ⟨x0, y0, xs1, ys1, r1, rfl, rfl, h1, rfl⟩ := eqCells_int h0
  obtain ⟨x1, y1, xs2, ys2, r2, rfl, rfl, h2, rfl⟩ := eqCells_bool h1
  obtain ⟨x2, y2, xs3, ys3, r3, rfl, rfl, h3, rfl⟩ := eqCells_int h2
  obtain ⟨x3, y3, xs4, ys4, r4, rfl, rfl, h4, rfl⟩ := eqCells_int h3
  obtain ⟨rfl, rfl, rfl⟩ := eqCells_nil h4
  refine ⟨by kernel_rfl, fun w => ?_⟩
  exact eqD31 9998 x0 y0 x1 y1 x2 y2 x3 y3 w
theorem eqD33 (d : Nat) (x0 y0 : Int) (x1 y1 : Int) (x2 y2 : Int) (x3 y3 : Bool) (x4 y4 : Int) (x5 y5 : Int) (w : World) : (Op.equalIn (d + 3) 33 (.agg #[.int .i64 x0, .int .i64 x1, .int .i64 x2, .bool x3, .int .i64 x4, .int .i64 x5]) (.agg #[.int .i64 y0, .int .i64 y1, .int .i64 y2, .bool y3, .int .i64 y4, .int .i64 y5])).run Tryz.prog w = .ok ((x0 == y0) && ((x1 == y1) && (((x2 == y2) && ((x3 == y3) && ((x4 == y4) && ((x5 == y5) && true)))) && true))) w := by
  refine sEq_of Tryz.underlying33 (by kernel_rfl) ?_
  refine sEq_cons (by decide) (sPart_one sz29 rfl) (sPart_one sz29 rfl) (sEq_int in29) ?_
  refine sEq_cons (by decide) (sPart_one sz2 rfl) (sPart_one sz2 rfl) (sEq_int in2) ?_
  refine sEq_cons (by decide) (sPart_agg sz31 rfl) (sPart_agg sz31 rfl) (eqD31 d x2 y2 x3 y3 x4 y4 x5 y5 w) ?_
  exact sEq_nil
theorem eqT33 (xs ys : List C) (r : Bool) (h0 : eqCells [.int .i64, .int .i64, .int .i64, .bool, .int .i64, .int .i64] xs ys = some r) : EqFact Tryz.prog 33 xs ys r := by
  obtain ⟨x0, y0, xs1, ys1, r1, rfl, rfl, h1, rfl⟩ := eqCells_int h0
  obtain ⟨x1, y1, xs2, ys2, r2, rfl, rfl, h2, rfl⟩ := eqCells_int h1
  obtain ⟨x2, y2, xs3, ys3, r3, rfl, rfl, h3, rfl⟩ := eqCells_int h2
  obtain ⟨x3, y3, xs4, ys4, r4, rfl, rfl, h4, rfl⟩ := eqCells_bool h3
  obtain ⟨x4, y4, xs5, ys5, r5, rfl, rfl, h5, rfl⟩ := eqCells_int h4
  obtain ⟨x5, y5, xs6, ys6, r6, rfl, rfl, h6, rfl⟩ := eqCells_int h5
  obtain ⟨rfl, rfl, rfl⟩ := eqCells_nil h6
  refine ⟨by kernel_rfl, fun w => ?_⟩
  have := eqD33 9997 x0 y0 x1 y1 x2 y2 x3 y3 x4 y4 x5 y5 w
  simp only [Bool.and_assoc, Bool.and_true, Bool.true_and] at this ⊢
  exact this
theorem eqD37 (d : Nat) (x0 y0 : Int) (x1 y1 : Int) (x2 y2 : Int) (x3 y3 : Int) (x4 y4 : Int) (x5 y5 : Int) (x6 y6 : Int) (x7 y7 : Int) (x8 y8 : Int) (w : World) : (Op.equalIn (d + 2) 37 (.agg #[.int .i64 x0, .int .i64 x1, .int .i64 x2, .int .i64 x3, .int .i64 x4, .int .i64 x5, .int .i64 x6, .int .i64 x7, .int .i64 x8]) (.agg #[.int .i64 y0, .int .i64 y1, .int .i64 y2, .int .i64 y3, .int .i64 y4, .int .i64 y5, .int .i64 y6, .int .i64 y7, .int .i64 y8])).run Tryz.prog w = .ok ((x0 == y0) && ((x1 == y1) && ((x2 == y2) && ((x3 == y3) && ((x4 == y4) && ((x5 == y5) && ((x6 == y6) && ((x7 == y7) && ((x8 == y8) && true))))))))) w := by
  refine sEq_of Tryz.underlying37 (by kernel_rfl) ?_
  refine sEq_cons (by decide) (sPart_one sz3 rfl) (sPart_one sz3 rfl) (sEq_int in3) ?_
  refine sEq_cons (by decide) (sPart_one sz2 rfl) (sPart_one sz2 rfl) (sEq_int in2) ?_
  refine sEq_cons (by decide) (sPart_one sz2 rfl) (sPart_one sz2 rfl) (sEq_int in2) ?_
  refine sEq_cons (by decide) (sPart_one sz2 rfl) (sPart_one sz2 rfl) (sEq_int in2) ?_
  refine sEq_cons (by decide) (sPart_one sz2 rfl) (sPart_one sz2 rfl) (sEq_int in2) ?_
  refine sEq_cons (by decide) (sPart_one sz3 rfl) (sPart_one sz3 rfl) (sEq_int in3) ?_
  refine sEq_cons (by decide) (sPart_one sz3 rfl) (sPart_one sz3 rfl) (sEq_int in3) ?_
  refine sEq_cons (by decide) (sPart_one sz3 rfl) (sPart_one sz3 rfl) (sEq_int in3) ?_
  refine sEq_cons (by decide) (sPart_one sz2 rfl) (sPart_one sz2 rfl) (sEq_int in2) ?_
  exact sEq_nil
theorem eqT37 (xs ys : List C) (r : Bool) (h0 : eqCells [.int .i64, .int .i64, .int .i64, .int .i64, .int .i64, .int .i64, .int .i64, .int .i64, .int .i64] xs ys = some r) : EqFact Tryz.prog 37 xs ys r := by
  obtain ⟨x0, y0, xs1, ys1, r1, rfl, rfl, h1, rfl⟩ := eqCells_int h0
  obtain ⟨x1, y1, xs2, ys2, r2, rfl, rfl, h2, rfl⟩ := eqCells_int h1
  obtain ⟨x2, y2, xs3, ys3, r3, rfl, rfl, h3, rfl⟩ := eqCells_int h2
  obtain ⟨x3, y3, xs4, ys4, r4, rfl, rfl, h4, rfl⟩ := eqCells_int h3
  obtain ⟨x4, y4, xs5, ys5, r5, rfl, rfl, h5, rfl⟩ := eqCells_int h4
  obtain ⟨x5, y5, xs6, ys6, r6, rfl, rfl, h6, rfl⟩ := eqCells_int h5
  obtain ⟨x6, y6, xs7, ys7, r7, rfl, rfl, h7, rfl⟩ := eqCells_int h6
  obtain ⟨x7, y7, xs8, ys8, r8, rfl, rfl, h8, rfl⟩ := eqCells_int h7
  obtain ⟨x8, y8, xs9, ys9, r9, rfl, rfl, h9, rfl⟩ := eqCells_int h8
  obtain ⟨rfl, rfl, rfl⟩ := eqCells_nil h9
  refine ⟨by kernel_rfl, fun w => ?_⟩
  exact eqD37 9998 x0 y0 x1 y1 x2 y2 x3 y3 x4 y4 x5 y5 x6 y6 x7 y7 x8 y8 w
theorem eqD49 (d : Nat) (x0 y0 : Int) (x1 y1 : Int) (x2 y2 : Int) (x3 y3 : Bool) (x4 y4 : Int) (x5 y5 : Int) (w : World) : (Op.equalIn (d + 2) 49 (.agg #[.int .i64 x0, .int .i64 x1, .int .i64 x2, .bool x3, .int .i64 x4, .int .i64 x5]) (.agg #[.int .i64 y0, .int .i64 y1, .int .i64 y2, .bool y3, .int .i64 y4, .int .i64 y5])).run Tryz.prog w = .ok ((x0 == y0) && ((x1 == y1) && ((x2 == y2) && ((x3 == y3) && ((x4 == y4) && ((x5 == y5) && true)))))) w := by
  refine sEq_of Tryz.underlying49 (by kernel_rfl) ?_
  refine sEq_cons (by decide) (sPart_one sz2 rfl) (sPart_one sz2 rfl) (sEq_int in2) ?_
  refine sEq_cons (by decide) (sPart_one sz2 rfl) (sPart_one sz2 rfl) (sEq_int in2) ?_
  refine sEq_cons (by decide) (sPart_one sz3 rfl) (sPart_one sz3 rfl) (sEq_int in3) ?_
  refine sEq_cons (by decide) (sPart_one sz4 rfl) (sPart_one sz4 rfl) (sEq_bool un4) ?_
  refine sEq_cons (by decide) (sPart_one sz3 rfl) (sPart_one sz3 rfl) (sEq_int in3) ?_
  refine sEq_cons (by decide) (sPart_one sz2 rfl) (sPart_one sz2 rfl) (sEq_int in2) ?_
  exact sEq_nil
theorem eqT49 (xs ys : List C) (r : Bool) (h0 : eqCells [.int .i64, .int .i64, .int .i64, .bool, .int .i64, .int .i64] xs ys = some r) : EqFact Tryz.prog 49 xs ys r := by
  obtain ⟨x0, y0, xs1, ys1, r1, rfl, rfl, h1, rfl⟩ := eqCells_int h0
  obtain ⟨x1, y1, xs2, ys2, r2, rfl, rfl, h2, rfl⟩ := eqCells_int h1
  obtain ⟨x2, y2, xs3, ys3, r3, rfl, rfl, h3, rfl⟩ := eqCells_int h2
  obtain ⟨x3, y3, xs4, ys4, r4, rfl, rfl, h4, rfl⟩ := eqCells_bool h3
  obtain ⟨x4, y4, xs5, ys5, r5, rfl, rfl, h5, rfl⟩ := eqCells_int h4
  obtain ⟨x5, y5, xs6, ys6, r6, rfl, rfl, h6, rfl⟩ := eqCells_int h5
  obtain ⟨rfl, rfl, rfl⟩ := eqCells_nil h6
  refine ⟨by kernel_rfl, fun w => ?_⟩
  exact eqD49 9998 x0 y0 x1 y1 x2 y2 x3 y3 x4 y4 x5 y5 w
theorem eqD88 (d : Nat) (x0 y0 : Bool) (x1 y1 : Int) (x2 y2 : Bool) (x3 y3 : Int) (x4 y4 : Int) (w : World) : (Op.equalIn (d + 3) 88 (.agg #[.bool x0, .int .i64 x1, .bool x2, .int .i64 x3, .int .i64 x4]) (.agg #[.bool y0, .int .i64 y1, .bool y2, .int .i64 y3, .int .i64 y4])).run Tryz.prog w = .ok ((x0 == y0) && (((x1 == y1) && ((x2 == y2) && ((x3 == y3) && ((x4 == y4) && true)))) && true)) w := by
  refine sEq_of Tryz.underlying88 (by kernel_rfl) ?_
  refine sEq_cons (by decide) (sPart_one sz4 rfl) (sPart_one sz4 rfl) (sEq_bool un4) ?_
  refine sEq_cons (by decide) (sPart_agg sz31 rfl) (sPart_agg sz31 rfl) (eqD31 d x1 y1 x2 y2 x3 y3 x4 y4 w) ?_
  exact sEq_nil
theorem eqT88 (xs ys : List C) (r : Bool) (h0 : eqCells [.bool, .int .i64, .bool, .int .i64, .int .i64] xs ys = some r) : EqFact Tryz.prog 88 xs ys r := by
  obtain ⟨x0, y0, xs1, ys1, r1, rfl, rfl, h1, rfl⟩ := eqCells_bool h0
  obtain ⟨x1, y1, xs2, ys2, r2, rfl, rfl, h2, rfl⟩ := eqCells_int h1
  obtain ⟨x2, y2, xs3, ys3, r3, rfl, rfl, h3, rfl⟩ := eqCells_bool h2
  obtain ⟨x3, y3, xs4, ys4, r4, rfl, rfl, h4, rfl⟩ := eqCells_int h3
  obtain ⟨x4, y4, xs5, ys5, r5, rfl, rfl, h5, rfl⟩ := eqCells_int h4
  obtain ⟨rfl, rfl, rfl⟩ := eqCells_nil h5
  refine ⟨by kernel_rfl, fun w => ?_⟩
  have := eqD88 9997 x0 y0 x1 y1 x2 y2 x3 y3 x4 y4 w
  simp only [Bool.and_assoc, Bool.and_true, Bool.true_and] at this ⊢
  exact this
theorem eqD117 (d : Nat) (x0 y0 : Int) (x1 y1 : Int) (w : World) : (Op.equalIn (d + 2) 117 (.agg #[.int .i64 x0, .int .i64 x1]) (.agg #[.int .i64 y0, .int .i64 y1])).run Tryz.prog w = .ok ((x0 == y0) && ((x1 == y1) && true)) w := by
  refine sEq_of Tryz.underlying117 (by kernel_rfl) ?_
  refine sEq_cons (by decide) (sPart_one sz2 rfl) (sPart_one sz2 rfl) (sEq_int in2) ?_
  refine sEq_cons (by decide) (sPart_one sz2 rfl) (sPart_one sz2 rfl) (sEq_int in2) ?_
  exact sEq_nil
theorem eqT117 (xs ys : List C) (r : Bool) (h0 : eqCells [.int .i64, .int .i64] xs ys = some r) : EqFact Tryz.prog 117 xs ys r := by
  obtain ⟨x0, y0, xs1, ys1, r1, rfl, rfl, h1, rfl⟩ := eqCells_int h0
  obtain ⟨x1, y1, xs2, ys2, r2, rfl, rfl, h2, rfl⟩ := eqCells_int h1
  obtain ⟨rfl, rfl, rfl⟩ := eqCells_nil h2
  refine ⟨by kernel_rfl, fun w => ?_⟩
  exact eqD117 9998 x0 y0 x1 y1 w
theorem fl26 (k o : Nat) (h : [0, 1][k]? = some o) : fieldT Tryz.prog 26 k = some o := by
  match k, h with
  | 0, h => injection h with h; subst h; exact fi26_0
  | 1, h => injection h with h; subst h; exact fi26_1
  | k + 2, h => simp at h
theorem fl28 (k o : Nat) (h : [0, 1][k]? = some o) : fieldT Tryz.prog 28 k = some o := by
  match k, h with
  | 0, h => injection h with h; subst h; exact fi28_0
  | 1, h => injection h with h; subst h; exact fi28_1
  | k + 2, h => simp at h
theorem fl31 (k o : Nat) (h : [0, 1, 2, 3][k]? = some o) : fieldT Tryz.prog 31 k = some o := by
  match k, h with
  | 0, h => injection h with h; subst h; exact fi31_0
  | 1, h => injection h with h; subst h; exact fi31_1
  | 2, h => injection h with h; subst h; exact fi31_2
  | 3, h => injection h with h; subst h; exact fi31_3
  | k + 4, h => simp at h
theorem fl33 (k o : Nat) (h : [0, 1, 2][k]? = some o) : fieldT Tryz.prog 33 k = some o := by
  match k, h with
  | 0, h => injection h with h; subst h; exact fi33_0
  | 1, h => injection h with h; subst h; exact fi33_1
  | 2, h => injection h with h; subst h; exact fi33_2
  | k + 3, h => simp at h
theorem fl37 (k o : Nat) (h : [0, 1, 2, 3, 4, 5, 6, 7, 8][k]? = some o) : fieldT Tryz.prog 37 k = some o := by
  match k, h with
  | 0, h => injection h with h; subst h; exact fi37_0
  | 1, h => injection h with h; subst h; exact fi37_1
  | 2, h => injection h with h; subst h; exact fi37_2
  | 3, h => injection h with h; subst h; exact fi37_3
  | 4, h => injection h with h; subst h; exact fi37_4
  | 5, h => injection h with h; subst h; exact fi37_5
  | 6, h => injection h with h; subst h; exact fi37_6
  | 7, h => injection h with h; subst h; exact fi37_7
  | 8, h => injection h with h; subst h; exact fi37_8
  | k + 9, h => simp at h
theorem fl49 (k o : Nat) (h : [0, 1, 2, 3, 4, 5][k]? = some o) : fieldT Tryz.prog 49 k = some o := by
  match k, h with
  | 0, h => injection h with h; subst h; exact fi49_0
  | 1, h => injection h with h; subst h; exact fi49_1
  | 2, h => injection h with h; subst h; exact fi49_2
  | 3, h => injection h with h; subst h; exact fi49_3
  | 4, h => injection h with h; subst h; exact fi49_4
  | 5, h => injection h with h; subst h; exact fi49_5
  | k + 6, h => simp at h
theorem fl72 (k o : Nat) (h : [0, 1, 10, 11, 12, 13, 19][k]? = some o) : fieldT Tryz.prog 72 k = some o := by
  match k, h with
  | 0, h => injection h with h; subst h; exact fi72_0
  | 1, h => injection h with h; subst h; exact fi72_1
  | 2, h => injection h with h; subst h; exact fi72_2
  | 3, h => injection h with h; subst h; exact fi72_3
  | 4, h => injection h with h; subst h; exact fi72_4
  | 5, h => injection h with h; subst h; exact fi72_5
  | 6, h => injection h with h; subst h; exact fi72_6
  | k + 7, h => simp at h
theorem fl88 (k o : Nat) (h : [0, 1][k]? = some o) : fieldT Tryz.prog 88 k = some o := by
  match k, h with
  | 0, h => injection h with h; subst h; exact fi88_0
  | 1, h => injection h with h; subst h; exact fi88_1
  | k + 2, h => simp at h
theorem fl117 (k o : Nat) (h : [0, 1][k]? = some o) : fieldT Tryz.prog 117 k = some o := by
  match k, h with
  | 0, h => injection h with h; subst h; exact fi117_0
  | 1, h => injection h with h; subst h; exact fi117_1
  | k + 2, h => simp at h
def FT : TT where
  sz := [(2, (false, 1)), (3, (false, 1)), (4, (false, 1)), (5, (false, 1)), (22, (false, 1)), (24, (false, 1)), (26, (true, 2)), (28, (true, 2)), (29, (false, 1)), (31, (true, 4)), (33, (true, 6)), (37, (true, 9)), (43, (false, 1)), (49, (true, 6)), (70, (false, 1)), (72, (true, 25)), (88, (true, 5)), (90, (true, 2560)), (114, (false, 1)), (117, (true, 2)), (123, (false, 1))]
  ze := [(2, [.v (.int .i64 0)]), (3, [.v (.int .i64 0)]), (4, [.v (.bool false)]), (5, [.v (.int .u8 0)]), (22, [.sl nilId none 0 0]), (24, [.sl nilId none 0 0]), (26, [.sl nilId none 0 0, .v (.int .i64 0)]), (28, [.sl nilId none 0 0, .v (.int .i64 0)]), (29, [.v (.int .i64 0)]), (31, [.v (.int .i64 0), .v (.bool false), .v (.int .i64 0), .v (.int .i64 0)]), (33, [.v (.int .i64 0), .v (.int .i64 0), .v (.int .i64 0), .v (.bool false), .v (.int .i64 0), .v (.int .i64 0)]), (37, [.v (.int .i64 0), .v (.int .i64 0), .v (.int .i64 0), .v (.int .i64 0), .v (.int .i64 0), .v (.int .i64 0), .v (.int .i64 0), .v (.int .i64 0), .v (.int .i64 0)]), (43, [.sl nilId none 0 0]), (49, [.v (.int .i64 0), .v (.int .i64 0), .v (.int .i64 0), .v (.bool false), .v (.int .i64 0), .v (.int .i64 0)]), (70, [.v (.pointer none)]), (72, [.sl nilId none 0 0, .v (.int .i64 0), .v (.int .i64 0), .v (.int .i64 0), .v (.int .i64 0), .v (.int .i64 0), .v (.int .i64 0), .v (.int .i64 0), .v (.int .i64 0), .v (.int .i64 0), .v (.int .i64 0), .v (.int .i64 0), .v (.int .i64 0), .v (.int .i64 0), .v (.int .i64 0), .v (.int .i64 0), .v (.bool false), .v (.int .i64 0), .v (.int .i64 0), .v (.int .i64 0), .v (.int .i64 0), .v (.int .i64 0), .v (.bool false), .v (.int .i64 0), .v (.int .i64 0)]), (88, [.v (.bool false), .v (.int .i64 0), .v (.bool false), .v (.int .i64 0), .v (.int .i64 0)]), (114, [.sl nilId none 0 0]), (117, [.v (.int .i64 0), .v (.int .i64 0)]), (123, [.sl nilId none 0 0])]
  fi := [(26, [0, 1]), (28, [0, 1]), (31, [0, 1, 2, 3]), (33, [0, 1, 2]), (37, [0, 1, 2, 3, 4, 5, 6, 7, 8]), (49, [0, 1, 2, 3, 4, 5]), (72, [0, 1, 10, 11, 12, 13, 19]), (88, [0, 1]), (117, [0, 1])]
  pl := [(26, [(0, 1), (1, 1)]), (28, [(0, 1), (1, 1)]), (31, [(0, 1), (1, 1), (2, 1), (3, 1)]), (33, [(0, 1), (1, 1), (2, 4)]), (37, [(0, 1), (1, 1), (2, 1), (3, 1), (4, 1), (5, 1), (6, 1), (7, 1), (8, 1)]), (49, [(0, 1), (1, 1), (2, 1), (3, 1), (4, 1), (5, 1)]), (72, [(0, 1), (1, 9), (10, 1), (11, 1), (12, 1), (13, 6), (19, 6)]), (88, [(0, 1), (1, 4)]), (117, [(0, 1), (1, 1)])]
  ar := [(90, (512, 5))]
  sl := [(22, (37, 9, 72, 9)), (24, (49, 6, 48, 6)), (43, (33, 6, 48, 6)), (114, (117, 2, 16, 2)), (123, (24, 1, 24, 1))]
  int := [(2, .i64), (3, .i64), (5, .u8), (29, .i64)]
  bool := [(4, ())]
  eq := [(31, [.int .i64, .bool, .int .i64, .int .i64]), (33, [.int .i64, .int .i64, .int .i64, .bool, .int .i64, .int .i64]), (37, [.int .i64, .int .i64, .int .i64, .int .i64, .int .i64, .int .i64, .int .i64, .int .i64, .int .i64]), (49, [.int .i64, .int .i64, .int .i64, .bool, .int .i64, .int .i64]), (88, [.bool, .int .i64, .bool, .int .i64, .int .i64]), (117, [.int .i64, .int .i64])]
  ptr := [(70, ())]
  zr := [(90, (512, [.v (.bool false), .v (.int .i64 0), .v (.bool false), .v (.int .i64 0), .v (.int .i64 0)]))]
  refs := [24, 26, 28, 72]
theorem FTok : TTok Tryz.prog FT where
  sz := List.forall_mem_cons.2 ⟨sz2, List.forall_mem_cons.2 ⟨sz3, List.forall_mem_cons.2 ⟨sz4, List.forall_mem_cons.2 ⟨sz5, List.forall_mem_cons.2 ⟨sz22, List.forall_mem_cons.2 ⟨sz24, List.forall_mem_cons.2 ⟨sz26, List.forall_mem_cons.2 ⟨sz28, List.forall_mem_cons.2 ⟨sz29, List.forall_mem_cons.2 ⟨sz31, List.forall_mem_cons.2 ⟨sz33, List.forall_mem_cons.2 ⟨sz37, List.forall_mem_cons.2 ⟨sz43, List.forall_mem_cons.2 ⟨sz49, List.forall_mem_cons.2 ⟨sz70, List.forall_mem_cons.2 ⟨sz72, List.forall_mem_cons.2 ⟨sz88, List.forall_mem_cons.2 ⟨sz90, List.forall_mem_cons.2 ⟨sz114, List.forall_mem_cons.2 ⟨sz117, List.forall_mem_cons.2 ⟨sz123, List.forall_mem_nil _⟩⟩⟩⟩⟩⟩⟩⟩⟩⟩⟩⟩⟩⟩⟩⟩⟩⟩⟩⟩⟩
  ze := List.forall_mem_cons.2 ⟨ze2, List.forall_mem_cons.2 ⟨ze3, List.forall_mem_cons.2 ⟨ze4, List.forall_mem_cons.2 ⟨ze5, List.forall_mem_cons.2 ⟨ze22, List.forall_mem_cons.2 ⟨ze24, List.forall_mem_cons.2 ⟨ze26, List.forall_mem_cons.2 ⟨ze28, List.forall_mem_cons.2 ⟨ze29, List.forall_mem_cons.2 ⟨ze31, List.forall_mem_cons.2 ⟨ze33, List.forall_mem_cons.2 ⟨ze37, List.forall_mem_cons.2 ⟨ze43, List.forall_mem_cons.2 ⟨ze49, List.forall_mem_cons.2 ⟨ze70, List.forall_mem_cons.2 ⟨ze72, List.forall_mem_cons.2 ⟨ze88, List.forall_mem_cons.2 ⟨ze114, List.forall_mem_cons.2 ⟨ze117, List.forall_mem_cons.2 ⟨ze123, List.forall_mem_nil _⟩⟩⟩⟩⟩⟩⟩⟩⟩⟩⟩⟩⟩⟩⟩⟩⟩⟩⟩⟩
  fi := List.forall_mem_cons.2 ⟨fl26, List.forall_mem_cons.2 ⟨fl28, List.forall_mem_cons.2 ⟨fl31, List.forall_mem_cons.2 ⟨fl33, List.forall_mem_cons.2 ⟨fl37, List.forall_mem_cons.2 ⟨fl49, List.forall_mem_cons.2 ⟨fl72, List.forall_mem_cons.2 ⟨fl88, List.forall_mem_cons.2 ⟨fl117, List.forall_mem_nil _⟩⟩⟩⟩⟩⟩⟩⟩⟩
  pl := List.forall_mem_cons.2 ⟨pl26, List.forall_mem_cons.2 ⟨pl28, List.forall_mem_cons.2 ⟨pl31, List.forall_mem_cons.2 ⟨pl33, List.forall_mem_cons.2 ⟨pl37, List.forall_mem_cons.2 ⟨pl49, List.forall_mem_cons.2 ⟨pl72, List.forall_mem_cons.2 ⟨pl88, List.forall_mem_cons.2 ⟨pl117, List.forall_mem_nil _⟩⟩⟩⟩⟩⟩⟩⟩⟩
  ar := List.forall_mem_cons.2 ⟨ar90, List.forall_mem_nil _⟩
  sl := List.forall_mem_cons.2 ⟨sl22, List.forall_mem_cons.2 ⟨sl24, List.forall_mem_cons.2 ⟨sl43, List.forall_mem_cons.2 ⟨sl114, List.forall_mem_cons.2 ⟨sl123, List.forall_mem_nil _⟩⟩⟩⟩⟩
  int := List.forall_mem_cons.2 ⟨in2, List.forall_mem_cons.2 ⟨in3, List.forall_mem_cons.2 ⟨in5, List.forall_mem_cons.2 ⟨in29, List.forall_mem_nil _⟩⟩⟩⟩
  bool := List.forall_mem_cons.2 ⟨un4, List.forall_mem_nil _⟩
  eq := List.forall_mem_cons.2 ⟨eqT31, List.forall_mem_cons.2 ⟨eqT33, List.forall_mem_cons.2 ⟨eqT37, List.forall_mem_cons.2 ⟨eqT49, List.forall_mem_cons.2 ⟨eqT88, List.forall_mem_cons.2 ⟨eqT117, List.forall_mem_nil _⟩⟩⟩⟩⟩⟩
  ptr := List.forall_mem_cons.2 ⟨⟨_, un70⟩, List.forall_mem_nil _⟩
  zr := List.forall_mem_cons.2 ⟨zr90, List.forall_mem_nil _⟩
end Go.Proofs.YtbcicjmepojlnaaGreat.Eng
/- Contracts of functions (printed by gen.py of this work): what each hands back; condition: as its 'hside' says. -/
namespace Go.Proofs.YtbcicjmepojlnaaGreat.Eng
open Go Go.RowKit
set_option linter.unusedVariables false
set_option linter.unusedSimpArgs false
theorem b_whole : Bodied Tryz.prog 95 := bodied Tryz.func95 rfl (by decide)
def r_whole (n : Int) : SV := .c (.v (.bool (whole n)))
def F_whole (κ : Kp) : List SV → Heap → Option (Prop × SV) := fun args _ => match args with
  | [.c (.v (.int .i64 n))] => some (κ _ (True), .c (.v (.bool (κ _ (whole n)))))
  | _ => none
set_option maxRecDepth 100000 in
set_option maxHeartbeats 4000000 in
theorem k_whole (n : Int) (w : World) (hside : True) : Calls Tryz.prog 95 #[(SV.c (.v (.int .i64 n))).den] w fun e w' => e = .returned (r_whole n).den ∧ Below w.heap.size w w' := by
  obtain ⟨κ, hκ⟩ : ∃ κ : Kp, κ = kid := ⟨_, rfl⟩
  refine pureE FTok [] mixed [] Tryz.func95 rfl (by kernel_rfl) _ [(0, .c (.v (.int .i64 n)))] _ w 6 rfl [.tmp 2] rfl (by simp) (by simp [SV.den, C.den]) hκ ?_
  cbv
  repeat' (first | refine And.intro ?_ ?_ | (intro _; cbv) | (refine tst_mk (fun h => ?_) (fun h => ?_) <;> cbv))
  all_goals subst hκ
  all_goals (try delta kid at *)
  all_goals (try simp only [kid] at *)
  all_goals (refine ⟨?_⟩)
  all_goals (try (simp_all [r_whole, SV.den, C.den, SV.den0, whole]; done))
  all_goals (try simp_all [r_whole, SV.den, C.den, SV.den0, whole])
  all_goals (try (rw [Bool.eq_iff_iff]; simp only [Bool.and_eq_true, Bool.or_eq_true, decide_eq_true_eq, Bool.not_eq_true', decide_eq_false_iff_not, beq_iff_eq]; omega))
  all_goals (try omega)
def e_whole {κ : Kp} (hκ : κ = kid) : ESpec Tryz.prog := pureES b_whole F_whole hκ fun args H s v w0 M w H' hF hs _ _ => by
  unfold F_whole at hF
  split at hF
  · rename_i n
    injection hF with hF
    injection hF with h1 h2
    subst h1 h2
    exact k_whole n w hs
  · cases hF
theorem b_formed : Bodied Tryz.prog 66 := bodied Tryz.func66 rfl (by decide)
def r_formed (a : Ar) : SV := .c (.v (.bool (formed a)))
def F_formed (κ : Kp) : List SV → Heap → Option (Prop × SV) := fun args _ => match args with
  | [.agg [.v (.int .i64 a1), .v (.int .i64 a2), .v (.int .i64 a3), .v (.bool a4), .v (.int .i64 a5), .v (.int .i64 a6)]] => some (κ _ (True), .c (.v (.bool (κ _ (formed (⟨a1, a2, a3, a4, a5, a6⟩ : Ar))))))
  | _ => none
set_option maxRecDepth 100000 in
set_option maxHeartbeats 4000000 in
theorem k_formed (a1 : Int) (a2 : Int) (a3 : Int) (a4 : Bool) (a5 : Int) (a6 : Int) (w : World) (hside : True) : Calls Tryz.prog 66 #[(SV.agg [.v (.int .i64 a1), .v (.int .i64 a2), .v (.int .i64 a3), .v (.bool a4), .v (.int .i64 a5), .v (.int .i64 a6)]).den] w fun e w' => e = .returned (r_formed (⟨a1, a2, a3, a4, a5, a6⟩ : Ar)).den ∧ Below w.heap.size w w' := by
  obtain ⟨κ, hκ⟩ : ∃ κ : Kp, κ = kid := ⟨_, rfl⟩
  refine pureE FTok [e_whole hκ] mixed [] Tryz.func66 rfl (by kernel_rfl) _ [(0, .agg [.v (.int .i64 a1), .v (.int .i64 a2), .v (.int .i64 a3), .v (.bool a4), .v (.int .i64 a5), .v (.int .i64 a6)])] _ w 75 rfl [.tmp 2] rfl (by simp) (by simp [SV.den, C.den]) hκ ?_
  cbv
  repeat' (first | refine And.intro ?_ ?_ | (intro _; cbv) | (refine tst_mk (fun h => ?_) (fun h => ?_) <;> cbv))
  all_goals subst hκ
  all_goals (try delta kid at *)
  all_goals (try simp only [kid] at *)
  all_goals (refine ⟨?_⟩)
  all_goals simp only [r_formed, SV.den, C.den, formed, w64, Value.bool.injEq]
  all_goals (try simp only [Bool.not_eq_true', Bool.not_eq_false'] at *)
  all_goals (simp only [*, Bool.not_true, Bool.not_false, Bool.or_true, Bool.true_or, Bool.or_false, Bool.false_or, Bool.and_true, Bool.true_and, Bool.and_false, Bool.false_and, if_true, if_false, GT.gt, GE.ge, Bool.false_eq_true, beq_iff_eq])
  all_goals (try simp_all)
  all_goals (try rfl)
def e_formed {κ : Kp} (hκ : κ = kid) : ESpec Tryz.prog := pureES b_formed F_formed hκ fun args H s v w0 M w H' hF hs _ _ => by
  unfold F_formed at hF
  split at hF
  · rename_i a1 a2 a3 a4 a5 a6
    injection hF with hF
    injection hF with h1 h2
    subst h1 h2
    exact k_formed a1 a2 a3 a4 a5 a6 w hs
  · cases hF
theorem b_has : Bodied Tryz.prog 88 := bodied Tryz.func88 rfl (by decide)
def r_has (a : Ar) (at_ : Int) : SV := .c (.v (.bool (hasA a at_)))
def F_has (κ : Kp) : List SV → Heap → Option (Prop × SV) := fun args _ => match args with
  | [.agg [.v (.int .i64 a1), .v (.int .i64 a2), .v (.int .i64 a3), .v (.bool a4), .v (.int .i64 a5), .v (.int .i64 a6)], .c (.v (.int .i64 at_))] => some (κ _ (True), .c (.v (.bool (κ _ (hasA (⟨a1, a2, a3, a4, a5, a6⟩ : Ar) at_)))))
  | _ => none
set_option maxRecDepth 100000 in
set_option maxHeartbeats 4000000 in
theorem k_has (a1 : Int) (a2 : Int) (a3 : Int) (a4 : Bool) (a5 : Int) (a6 : Int) (at_ : Int) (w : World) (hside : True) : Calls Tryz.prog 88 #[(SV.agg [.v (.int .i64 a1), .v (.int .i64 a2), .v (.int .i64 a3), .v (.bool a4), .v (.int .i64 a5), .v (.int .i64 a6)]).den, (SV.c (.v (.int .i64 at_))).den] w fun e w' => e = .returned (r_has (⟨a1, a2, a3, a4, a5, a6⟩ : Ar) at_).den ∧ Below w.heap.size w w' := by
  obtain ⟨κ, hκ⟩ : ∃ κ : Kp, κ = kid := ⟨_, rfl⟩
  refine pureE FTok [e_formed hκ] mixed [] Tryz.func88 rfl (by kernel_rfl) _ [(0, .agg [.v (.int .i64 a1), .v (.int .i64 a2), .v (.int .i64 a3), .v (.bool a4), .v (.int .i64 a5), .v (.int .i64 a6)]), (1, .c (.v (.int .i64 at_)))] _ w 19 rfl [.tmp 4] rfl (by simp) (by simp [SV.den, C.den]) hκ ?_
  cbv
  repeat' (first | refine And.intro ?_ ?_ | (intro _; cbv) | (refine tst_mk (fun h => ?_) (fun h => ?_) <;> cbv))
  all_goals subst hκ
  all_goals (try delta kid at *)
  all_goals (try simp only [kid] at *)
  all_goals (refine ⟨?_⟩)
  all_goals (try (simp_all [r_has, SV.den, C.den, SV.den0, hasA]; done))
  all_goals (try simp_all [r_has, SV.den, C.den, SV.den0, hasA])
  all_goals (try (rw [Bool.eq_iff_iff]; simp only [Bool.and_eq_true, Bool.or_eq_true, decide_eq_true_eq, Bool.not_eq_true', decide_eq_false_iff_not, beq_iff_eq]; omega))
  all_goals (try omega)
def e_has {κ : Kp} (hκ : κ = kid) : ESpec Tryz.prog := pureES b_has F_has hκ fun args H s v w0 M w H' hF hs _ _ => by
  unfold F_has at hF
  split at hF
  · rename_i a1 a2 a3 a4 a5 a6 at_
    injection hF with hF
    injection hF with h1 h2
    subst h1 h2
    exact k_has a1 a2 a3 a4 a5 a6 at_ w hs
  · cases hF
theorem b_off : Bodied Tryz.prog 89 := bodied Tryz.func89 rfl (by decide)
def r_off (a : Ar) (at_ : Int) : SV := .c (.v (.int .i64 (offA a at_)))
def F_off (κ : Kp) : List SV → Heap → Option (Prop × SV) := fun args _ => match args with
  | [.agg [.v (.int .i64 a1), .v (.int .i64 a2), .v (.int .i64 a3), .v (.bool a4), .v (.int .i64 a5), .v (.int .i64 a6)], .c (.v (.int .i64 at_))] => some (κ _ (True), .c (.v (.int .i64 (κ _ (offA (⟨a1, a2, a3, a4, a5, a6⟩ : Ar) at_)))))
  | _ => none
set_option maxRecDepth 100000 in
set_option maxHeartbeats 4000000 in
theorem k_off (a1 : Int) (a2 : Int) (a3 : Int) (a4 : Bool) (a5 : Int) (a6 : Int) (at_ : Int) (w : World) (hside : True) : Calls Tryz.prog 89 #[(SV.agg [.v (.int .i64 a1), .v (.int .i64 a2), .v (.int .i64 a3), .v (.bool a4), .v (.int .i64 a5), .v (.int .i64 a6)]).den, (SV.c (.v (.int .i64 at_))).den] w fun e w' => e = .returned (r_off (⟨a1, a2, a3, a4, a5, a6⟩ : Ar) at_).den ∧ Below w.heap.size w w' := by
  obtain ⟨κ, hκ⟩ : ∃ κ : Kp, κ = kid := ⟨_, rfl⟩
  refine pureE FTok [] mixed [] Tryz.func89 rfl (by kernel_rfl) _ [(0, .agg [.v (.int .i64 a1), .v (.int .i64 a2), .v (.int .i64 a3), .v (.bool a4), .v (.int .i64 a5), .v (.int .i64 a6)]), (1, .c (.v (.int .i64 at_)))] _ w 15 rfl [.tmp 4] rfl (by simp) (by simp [SV.den, C.den]) hκ ?_
  cbv
  repeat' (first | refine And.intro ?_ ?_ | (intro _; cbv) | (refine tst_mk (fun h => ?_) (fun h => ?_) <;> cbv))
  all_goals subst hκ
  all_goals (try delta kid at *)
  all_goals (try simp only [kid] at *)
  all_goals (refine ⟨?_⟩)
  all_goals (try (simp_all [r_off, SV.den, C.den, SV.den0, offA, w64]; done))
  all_goals (try simp_all [r_off, SV.den, C.den, SV.den0, offA, w64])
  all_goals (try (rw [Bool.eq_iff_iff]; simp only [Bool.and_eq_true, Bool.or_eq_true, decide_eq_true_eq, Bool.not_eq_true', decide_eq_false_iff_not, beq_iff_eq]; omega))
  all_goals (try omega)
def e_off {κ : Kp} (hκ : κ = kid) : ESpec Tryz.prog := pureES b_off F_off hκ fun args H s v w0 M w H' hF hs _ _ => by
  unfold F_off at hF
  split at hF
  · rename_i a1 a2 a3 a4 a5 a6 at_
    injection hF with hF
    injection hF with h1 h2
    subst h1 h2
    exact k_off a1 a2 a3 a4 a5 a6 at_ w hs
  · cases hF
theorem b_attr : Bodied Tryz.prog 51 := bodied Tryz.func51 rfl (by decide)
def r_attr (a : Ar) (at_ : Int) : SV := .tup [.agg [.v (.int .i64 ((attrA a at_).p)), .v (.bool ((attrA a at_).sh)), .v (.int .i64 ((attrA a at_).b)), .v (.int .i64 ((attrA a at_).o))], .c (.v (.bool (hasA a at_)))]
def F_attr (κ : Kp) : List SV → Heap → Option (Prop × SV) := fun args _ => match args with
  | [.agg [.v (.int .i64 a1), .v (.int .i64 a2), .v (.int .i64 a3), .v (.bool a4), .v (.int .i64 a5), .v (.int .i64 a6)], .c (.v (.int .i64 at_))] => some (κ _ (True), .tup [.agg [.v (.int .i64 (κ _ ((attrA (⟨a1, a2, a3, a4, a5, a6⟩ : Ar) at_).p))), .v (.bool (κ _ ((attrA (⟨a1, a2, a3, a4, a5, a6⟩ : Ar) at_).sh))), .v (.int .i64 (κ _ ((attrA (⟨a1, a2, a3, a4, a5, a6⟩ : Ar) at_).b))), .v (.int .i64 (κ _ ((attrA (⟨a1, a2, a3, a4, a5, a6⟩ : Ar) at_).o)))], .c (.v (.bool (κ _ (hasA (⟨a1, a2, a3, a4, a5, a6⟩ : Ar) at_))))])
  | _ => none
set_option maxRecDepth 100000 in
set_option maxHeartbeats 4000000 in
theorem k_attr (a1 : Int) (a2 : Int) (a3 : Int) (a4 : Bool) (a5 : Int) (a6 : Int) (at_ : Int) (w : World) (hside : True) : Calls Tryz.prog 51 #[(SV.agg [.v (.int .i64 a1), .v (.int .i64 a2), .v (.int .i64 a3), .v (.bool a4), .v (.int .i64 a5), .v (.int .i64 a6)]).den, (SV.c (.v (.int .i64 at_))).den] w fun e w' => e = .returned (r_attr (⟨a1, a2, a3, a4, a5, a6⟩ : Ar) at_).den ∧ Below w.heap.size w w' := by
  obtain ⟨κ, hκ⟩ : ∃ κ : Kp, κ = kid := ⟨_, rfl⟩
  refine pureE FTok [e_has hκ, e_off hκ] mixed [(3, [[], [], [0, 1], [0, 1], [0, 1, 2, 3], [0, 1, 2, 3], [0, 1, 2, 3, 4, 5], [0, 1, 2, 3, 4, 5, 6], [0, 1, 2, 3, 4, 5, 6, 7], [0, 1, 2, 3, 4, 5, 6, 7], [0, 1, 2, 3, 4, 5, 6], [0, 1, 2, 3, 4, 5], [], [], []])] Tryz.func51 rfl (by kernel_rfl) _ [(0, .agg [.v (.int .i64 a1), .v (.int .i64 a2), .v (.int .i64 a3), .v (.bool a4), .v (.int .i64 a5), .v (.int .i64 a6)]), (1, .c (.v (.int .i64 at_)))] _ w 24 rfl [.cell 4 31, .tmp 5] rfl (by simp) (by simp [SV.den, C.den]) hκ ?_
  cbv
  repeat' (first | refine And.intro ?_ ?_ | (intro _; cbv) | (refine tst_mk (fun h => ?_) (fun h => ?_) <;> cbv))
  all_goals subst hκ
  all_goals (try delta kid at *)
  all_goals (try simp only [kid] at *)
  all_goals (refine ⟨?_⟩)
  all_goals (try (simp_all [r_attr, SV.den, C.den, SV.den0, attrA, noAt, w64]; done))
  all_goals (try simp_all [r_attr, SV.den, C.den, SV.den0, attrA, noAt, w64])
  all_goals (try (rw [Bool.eq_iff_iff]; simp only [Bool.and_eq_true, Bool.or_eq_true, decide_eq_true_eq, Bool.not_eq_true', decide_eq_false_iff_not, beq_iff_eq]; omega))
  all_goals (try omega)
def e_attr {κ : Kp} (hκ : κ = kid) : ESpec Tryz.prog := pureES b_attr F_attr hκ fun args H s v w0 M w H' hF hs _ _ => by
  unfold F_attr at hF
  split at hF
  · rename_i a1 a2 a3 a4 a5 a6 at_
    injection hF with hF
    injection hF with h1 h2
    subst h1 h2
    exact k_attr a1 a2 a3 a4 a5 a6 at_ w hs
  · cases hF
end Go.Proofs.YtbcicjmepojlnaaGreat.Eng
/- Contracts of functions (printed by gen.py of this work): what each hands back; condition: as its 'hside' says. -/
namespace Go.Proofs.YtbcicjmepojlnaaGreat.Eng
open Go Go.RowKit
set_option linter.unusedVariables false
set_option linter.unusedSimpArgs false
theorem b_goes : Bodied Tryz.prog 67 := bodied Tryz.func67 rfl (by decide)
def r_goes (x : Ar) (y : Ar) : SV := .c (.v (.bool (goesA x y)))
def F_goes (κ : Kp) : List SV → Heap → Option (Prop × SV) := fun args _ => match args with
  | [.agg [.v (.int .i64 x1), .v (.int .i64 x2), .v (.int .i64 x3), .v (.bool x4), .v (.int .i64 x5), .v (.int .i64 x6)], .agg [.v (.int .i64 y1), .v (.int .i64 y2), .v (.int .i64 y3), .v (.bool y4), .v (.int .i64 y5), .v (.int .i64 y6)]] => some (κ _ (True), .c (.v (.bool (κ _ (goesA (⟨x1, x2, x3, x4, x5, x6⟩ : Ar) (⟨y1, y2, y3, y4, y5, y6⟩ : Ar))))))
  | _ => none
set_option maxRecDepth 100000 in
set_option maxHeartbeats 4000000 in
theorem k_goes (x1 : Int) (x2 : Int) (x3 : Int) (x4 : Bool) (x5 : Int) (x6 : Int) (y1 : Int) (y2 : Int) (y3 : Int) (y4 : Bool) (y5 : Int) (y6 : Int) (w : World) (hside : True) : Calls Tryz.prog 67 #[(SV.agg [.v (.int .i64 x1), .v (.int .i64 x2), .v (.int .i64 x3), .v (.bool x4), .v (.int .i64 x5), .v (.int .i64 x6)]).den, (SV.agg [.v (.int .i64 y1), .v (.int .i64 y2), .v (.int .i64 y3), .v (.bool y4), .v (.int .i64 y5), .v (.int .i64 y6)]).den] w fun e w' => e = .returned (r_goes (⟨x1, x2, x3, x4, x5, x6⟩ : Ar) (⟨y1, y2, y3, y4, y5, y6⟩ : Ar)).den ∧ Below w.heap.size w w' := by
  obtain ⟨κ, hκ⟩ : ∃ κ : Kp, κ = kid := ⟨_, rfl⟩
  refine pureE FTok [e_formed hκ, e_off hκ] mixed [(1, [[], [], [], [], [], [], [], [], [], [7, 8], [7, 8], [], [], [], [], [], [14, 15], [14, 15], [], [], [], [], [], [21, 22], [21, 22], [], [], [], [], [], [28, 29], [28, 29], [], [], [], [], [], [35, 36], [35, 36, 37], [35, 36, 37], [35, 36], [], [], []])] Tryz.func67 rfl (by kernel_rfl) _ [(0, .agg [.v (.int .i64 x1), .v (.int .i64 x2), .v (.int .i64 x3), .v (.bool x4), .v (.int .i64 x5), .v (.int .i64 x6)]), (1, .agg [.v (.int .i64 y1), .v (.int .i64 y2), .v (.int .i64 y3), .v (.bool y4), .v (.int .i64 y5), .v (.int .i64 y6)])] _ w 48 rfl [.tmp 4] rfl (by simp) (by simp [SV.den, C.den]) hκ ?_
  cbv
  repeat' (first | refine And.intro ?_ ?_ | (intro _; cbv) | (refine tst_mk (fun h => ?_) (fun h => ?_) <;> cbv))
  all_goals subst hκ
  all_goals (try delta kid at *)
  all_goals (try simp only [kid] at *)
  all_goals (refine ⟨?_⟩)
  all_goals (try (simp_all [r_goes, SV.den, C.den, SV.den0, goesA]; done))
  all_goals (try simp_all [r_goes, SV.den, C.den, SV.den0, goesA])
  all_goals (try (rw [Bool.eq_iff_iff]; simp only [Bool.and_eq_true, Bool.or_eq_true, decide_eq_true_eq, Bool.not_eq_true', decide_eq_false_iff_not, beq_iff_eq]; omega))
  all_goals (try omega)
def e_goes {κ : Kp} (hκ : κ = kid) : ESpec Tryz.prog := pureES b_goes F_goes hκ fun args H s v w0 M w H' hF hs _ _ => by
  unfold F_goes at hF
  split at hF
  · rename_i x1 x2 x3 x4 x5 x6 y1 y2 y3 y4 y5 y6
    injection hF with hF
    injection hF with h1 h2
    subst h1 h2
    exact k_goes x1 x2 x3 x4 x5 x6 y1 y2 y3 y4 y5 y6 w hs
  · cases hF
theorem b_join : Bodied Tryz.prog 102 := bodied Tryz.func102 rfl (by decide)
def r_join (x : Ar) (y : Ar) : SV := .tup [.agg [.v (.int .i64 ((joinA x y).s)), .v (.int .i64 ((joinA x y).e)), .v (.int .i64 ((joinA x y).p)), .v (.bool ((joinA x y).sh)), .v (.int .i64 ((joinA x y).b)), .v (.int .i64 ((joinA x y).o))], .c (.v (.bool (joinsA x y)))]
def F_join (κ : Kp) : List SV → Heap → Option (Prop × SV) := fun args _ => match args with
  | [.agg [.v (.int .i64 x1), .v (.int .i64 x2), .v (.int .i64 x3), .v (.bool x4), .v (.int .i64 x5), .v (.int .i64 x6)], .agg [.v (.int .i64 y1), .v (.int .i64 y2), .v (.int .i64 y3), .v (.bool y4), .v (.int .i64 y5), .v (.int .i64 y6)]] => some (κ _ (True), .tup [.agg [.v (.int .i64 (κ _ ((joinA (⟨x1, x2, x3, x4, x5, x6⟩ : Ar) (⟨y1, y2, y3, y4, y5, y6⟩ : Ar)).s))), .v (.int .i64 (κ _ ((joinA (⟨x1, x2, x3, x4, x5, x6⟩ : Ar) (⟨y1, y2, y3, y4, y5, y6⟩ : Ar)).e))), .v (.int .i64 (κ _ ((joinA (⟨x1, x2, x3, x4, x5, x6⟩ : Ar) (⟨y1, y2, y3, y4, y5, y6⟩ : Ar)).p))), .v (.bool (κ _ ((joinA (⟨x1, x2, x3, x4, x5, x6⟩ : Ar) (⟨y1, y2, y3, y4, y5, y6⟩ : Ar)).sh))), .v (.int .i64 (κ _ ((joinA (⟨x1, x2, x3, x4, x5, x6⟩ : Ar) (⟨y1, y2, y3, y4, y5, y6⟩ : Ar)).b))), .v (.int .i64 (κ _ ((joinA (⟨x1, x2, x3, x4, x5, x6⟩ : Ar) (⟨y1, y2, y3, y4, y5, y6⟩ : Ar)).o)))], .c (.v (.bool (κ _ (joinsA (⟨x1, x2, x3, x4, x5, x6⟩ : Ar) (⟨y1, y2, y3, y4, y5, y6⟩ : Ar)))))])
  | _ => none
set_option maxRecDepth 100000 in
set_option maxHeartbeats 4000000 in
theorem k_join (x1 : Int) (x2 : Int) (x3 : Int) (x4 : Bool) (x5 : Int) (x6 : Int) (y1 : Int) (y2 : Int) (y3 : Int) (y4 : Bool) (y5 : Int) (y6 : Int) (w : World) (hside : True) : Calls Tryz.prog 102 #[(SV.agg [.v (.int .i64 x1), .v (.int .i64 x2), .v (.int .i64 x3), .v (.bool x4), .v (.int .i64 x5), .v (.int .i64 x6)]).den, (SV.agg [.v (.int .i64 y1), .v (.int .i64 y2), .v (.int .i64 y3), .v (.bool y4), .v (.int .i64 y5), .v (.int .i64 y6)]).den] w fun e w' => e = .returned (r_join (⟨x1, x2, x3, x4, x5, x6⟩ : Ar) (⟨y1, y2, y3, y4, y5, y6⟩ : Ar)).den ∧ Below w.heap.size w w' := by
  obtain ⟨κ, hκ⟩ : ∃ κ : Kp, κ = kid := ⟨_, rfl⟩
  refine pureE FTok [e_goes hκ, e_formed hκ] mixed [] Tryz.func102 rfl (by kernel_rfl) _ [(0, .agg [.v (.int .i64 x1), .v (.int .i64 x2), .v (.int .i64 x3), .v (.bool x4), .v (.int .i64 x5), .v (.int .i64 x6)]), (1, .agg [.v (.int .i64 y1), .v (.int .i64 y2), .v (.int .i64 y3), .v (.bool y4), .v (.int .i64 y5), .v (.int .i64 y6)])] _ w 32 rfl [.cell 4 49, .tmp 5] rfl (by simp) (by simp [SV.den, C.den]) hκ ?_
  cbv
  repeat' (first | refine And.intro ?_ ?_ | (intro _; cbv) | (refine tst_mk (fun h => ?_) (fun h => ?_) <;> cbv))
  all_goals subst hκ
  all_goals (try delta kid at *)
  all_goals (try simp only [kid] at *)
  all_goals (refine ⟨?_⟩)
  all_goals (try (simp_all [r_join, SV.den, C.den, SV.den0, joinA, joinsA, noAr]; done))
  all_goals (try simp_all [r_join, SV.den, C.den, SV.den0, joinA, joinsA, noAr])
  all_goals (try (rw [Bool.eq_iff_iff]; simp only [Bool.and_eq_true, Bool.or_eq_true, decide_eq_true_eq, Bool.not_eq_true', decide_eq_false_iff_not, beq_iff_eq]; omega))
  all_goals (try omega)
def e_join {κ : Kp} (hκ : κ = kid) : ESpec Tryz.prog := pureES b_join F_join hκ fun args H s v w0 M w H' hF hs _ _ => by
  unfold F_join at hF
  split at hF
  · rename_i x1 x2 x3 x4 x5 x6 y1 y2 y3 y4 y5 y6
    injection hF with hF
    injection hF with h1 h2
    subst h1 h2
    exact k_join x1 x2 x3 x4 x5 x6 y1 y2 y3 y4 y5 y6 w hs
  · cases hF
end Go.Proofs.YtbcicjmepojlnaaGreat.Eng
/- Contracts of functions (printed by gen.py of this work): what each hands back; condition: as its 'hside' says. -/
namespace Go.Proofs.YtbcicjmepojlnaaGreat.Eng
open Go Go.RowKit
set_option linter.unusedVariables false
set_option linter.unusedSimpArgs false
theorem b_floor : Bodied Tryz.prog 104 := bodied Tryz.func104 rfl (by decide)
def r_floor (n : Int) : SV := .c (.v (.int .i64 (floorA n)))
def F_floor (κ : Kp) : List SV → Heap → Option (Prop × SV) := fun args _ => match args with
  | [.c (.v (.int .i64 n))] => some (κ _ (True), .c (.v (.int .i64 (κ _ (floorA n)))))
  | _ => none
set_option maxRecDepth 100000 in
set_option maxHeartbeats 4000000 in
theorem k_floor (n : Int) (w : World) (hside : True) : Calls Tryz.prog 104 #[(SV.c (.v (.int .i64 n))).den] w fun e w' => e = .returned (r_floor n).den ∧ Below w.heap.size w w' := by
  obtain ⟨κ, hκ⟩ : ∃ κ : Kp, κ = kid := ⟨_, rfl⟩
  refine pureE FTok [] mixed [] Tryz.func104 rfl (by kernel_rfl) _ [(0, .c (.v (.int .i64 n)))] _ w 9 rfl [.tmp 2] rfl (by simp) (by simp [SV.den, C.den]) hκ ?_
  cbv
  repeat' (first | refine And.intro ?_ ?_ | (intro _; cbv) | (refine tst_mk (fun h => ?_) (fun h => ?_) <;> cbv))
  all_goals subst hκ
  all_goals (try delta kid at *)
  all_goals (try simp only [kid] at *)
  all_goals (refine ⟨?_⟩)
  all_goals (try (simp_all [r_floor, SV.den, C.den, SV.den0, floorA, w64]; done))
  all_goals (try simp_all [r_floor, SV.den, C.den, SV.den0, floorA, w64])
  all_goals (try (rw [Bool.eq_iff_iff]; simp only [Bool.and_eq_true, Bool.or_eq_true, decide_eq_true_eq, Bool.not_eq_true', decide_eq_false_iff_not, beq_iff_eq]; omega))
  all_goals (try omega)
def e_floor {κ : Kp} (hκ : κ = kid) : ESpec Tryz.prog := pureES b_floor F_floor hκ fun args H s v w0 M w H' hF hs _ _ => by
  unfold F_floor at hF
  split at hF
  · rename_i n
    injection hF with hF
    injection hF with h1 h2
    subst h1 h2
    exact k_floor n w hs
  · cases hF
theorem b_ceil : Bodied Tryz.prog 105 := bodied Tryz.func105 rfl (by decide)
def r_ceil (n : Int) : SV := .c (.v (.int .i64 (ceilA n)))
def F_ceil (κ : Kp) : List SV → Heap → Option (Prop × SV) := fun args _ => match args with
  | [.c (.v (.int .i64 n))] => some (κ _ (True), .c (.v (.int .i64 (κ _ (ceilA n)))))
  | _ => none
set_option maxRecDepth 100000 in
set_option maxHeartbeats 4000000 in
theorem k_ceil (n : Int) (w : World) (hside : True) : Calls Tryz.prog 105 #[(SV.c (.v (.int .i64 n))).den] w fun e w' => e = .returned (r_ceil n).den ∧ Below w.heap.size w w' := by
  obtain ⟨κ, hκ⟩ : ∃ κ : Kp, κ = kid := ⟨_, rfl⟩
  refine pureE FTok [e_floor hκ] mixed [] Tryz.func105 rfl (by kernel_rfl) _ [(0, .c (.v (.int .i64 n)))] _ w 9 rfl [.tmp 2] rfl (by simp) (by simp [SV.den, C.den]) hκ ?_
  cbv
  repeat' (first | refine And.intro ?_ ?_ | (intro _; cbv) | (refine tst_mk (fun h => ?_) (fun h => ?_) <;> cbv))
  all_goals subst hκ
  all_goals (try delta kid at *)
  all_goals (try simp only [kid] at *)
  all_goals (refine ⟨?_⟩)
  all_goals (try (simp_all [r_ceil, SV.den, C.den, SV.den0, ceilA, w64]; done))
  all_goals (try simp_all [r_ceil, SV.den, C.den, SV.den0, ceilA, w64])
  all_goals (try (rw [Bool.eq_iff_iff]; simp only [Bool.and_eq_true, Bool.or_eq_true, decide_eq_true_eq, Bool.not_eq_true', decide_eq_false_iff_not, beq_iff_eq]; omega))
  all_goals (try omega)
def e_ceil {κ : Kp} (hκ : κ = kid) : ESpec Tryz.prog := pureES b_ceil F_ceil hκ fun args H s v w0 M w H' hF hs _ _ => by
  unfold F_ceil at hF
  split at hF
  · rename_i n
    injection hF with hF
    injection hF with h1 h2
    subst h1 h2
    exact k_ceil n w hs
  · cases hF
theorem b_may : Bodied Tryz.prog 50 := bodied Tryz.func50 rfl (by decide)
def r_may (a : Ar) (k : Int) : SV := .c (.v (.bool (mayA a k)))
def F_may (κ : Kp) : List SV → Heap → Option (Prop × SV) := fun args _ => match args with
  | [.agg [.v (.int .i64 a1), .v (.int .i64 a2), .v (.int .i64 a3), .v (.bool a4), .v (.int .i64 a5), .v (.int .i64 a6)], .c (.v (.int .i64 k))] => some (κ _ (True), .c (.v (.bool (κ _ (mayA (⟨a1, a2, a3, a4, a5, a6⟩ : Ar) k)))))
  | _ => none
set_option maxRecDepth 100000 in
set_option maxHeartbeats 4000000 in
theorem k_may (a1 : Int) (a2 : Int) (a3 : Int) (a4 : Bool) (a5 : Int) (a6 : Int) (k : Int) (w : World) (hside : True) : Calls Tryz.prog 50 #[(SV.agg [.v (.int .i64 a1), .v (.int .i64 a2), .v (.int .i64 a3), .v (.bool a4), .v (.int .i64 a5), .v (.int .i64 a6)]).den, (SV.c (.v (.int .i64 k))).den] w fun e w' => e = .returned (r_may (⟨a1, a2, a3, a4, a5, a6⟩ : Ar) k).den ∧ Below w.heap.size w w' := by
  obtain ⟨κ, hκ⟩ : ∃ κ : Kp, κ = kid := ⟨_, rfl⟩
  refine pureE FTok [] mixed [] Tryz.func50 rfl (by kernel_rfl) _ [(0, .agg [.v (.int .i64 a1), .v (.int .i64 a2), .v (.int .i64 a3), .v (.bool a4), .v (.int .i64 a5), .v (.int .i64 a6)]), (1, .c (.v (.int .i64 k)))] _ w 19 rfl [.tmp 4] rfl (by simp) (by simp [SV.den, C.den]) hκ ?_
  cbv
  repeat' (first | refine And.intro ?_ ?_ | (intro _; cbv) | (refine tst_mk (fun h => ?_) (fun h => ?_) <;> cbv))
  all_goals subst hκ
  all_goals (try delta kid at *)
  all_goals (try simp only [kid] at *)
  all_goals (refine ⟨?_⟩)
  all_goals (try (simp_all [r_may, SV.den, C.den, SV.den0, mayA]; done))
  all_goals (try simp_all [r_may, SV.den, C.den, SV.den0, mayA])
  all_goals (try (rw [Bool.eq_iff_iff]; simp only [Bool.and_eq_true, Bool.or_eq_true, decide_eq_true_eq, Bool.not_eq_true', decide_eq_false_iff_not, beq_iff_eq]; omega))
  all_goals (try omega)
def e_may {κ : Kp} (hκ : κ = kid) : ESpec Tryz.prog := pureES b_may F_may hκ fun args H s v w0 M w H' hF hs _ _ => by
  unfold F_may at hF
  split at hF
  · rename_i a1 a2 a3 a4 a5 a6 k
    injection hF with hF
    injection hF with h1 h2
    subst h1 h2
    exact k_may a1 a2 a3 a4 a5 a6 k w hs
  · cases hF
theorem b_part : Bodied Tryz.prog 83 := bodied Tryz.func83 rfl (by decide)
def r_part (a : Ar) (lo : Int) (hi : Int) : SV := .tup [.agg [.v (.int .i64 ((partA a lo hi).s)), .v (.int .i64 ((partA a lo hi).e)), .v (.int .i64 ((partA a lo hi).p)), .v (.bool ((partA a lo hi).sh)), .v (.int .i64 ((partA a lo hi).b)), .v (.int .i64 ((partA a lo hi).o))], .c (.v (.bool (hasPart a lo hi)))]
def F_part (κ : Kp) : List SV → Heap → Option (Prop × SV) := fun args _ => match args with
  | [.agg [.v (.int .i64 a1), .v (.int .i64 a2), .v (.int .i64 a3), .v (.bool a4), .v (.int .i64 a5), .v (.int .i64 a6)], .c (.v (.int .i64 lo)), .c (.v (.int .i64 hi))] => some (κ _ (True), .tup [.agg [.v (.int .i64 (κ _ ((partA (⟨a1, a2, a3, a4, a5, a6⟩ : Ar) lo hi).s))), .v (.int .i64 (κ _ ((partA (⟨a1, a2, a3, a4, a5, a6⟩ : Ar) lo hi).e))), .v (.int .i64 (κ _ ((partA (⟨a1, a2, a3, a4, a5, a6⟩ : Ar) lo hi).p))), .v (.bool (κ _ ((partA (⟨a1, a2, a3, a4, a5, a6⟩ : Ar) lo hi).sh))), .v (.int .i64 (κ _ ((partA (⟨a1, a2, a3, a4, a5, a6⟩ : Ar) lo hi).b))), .v (.int .i64 (κ _ ((partA (⟨a1, a2, a3, a4, a5, a6⟩ : Ar) lo hi).o)))], .c (.v (.bool (κ _ (hasPart (⟨a1, a2, a3, a4, a5, a6⟩ : Ar) lo hi))))])
  | _ => none
set_option maxRecDepth 100000 in
set_option maxHeartbeats 4000000 in
theorem k_part (a1 : Int) (a2 : Int) (a3 : Int) (a4 : Bool) (a5 : Int) (a6 : Int) (lo : Int) (hi : Int) (w : World) (hside : True) : Calls Tryz.prog 83 #[(SV.agg [.v (.int .i64 a1), .v (.int .i64 a2), .v (.int .i64 a3), .v (.bool a4), .v (.int .i64 a5), .v (.int .i64 a6)]).den, (SV.c (.v (.int .i64 lo))).den, (SV.c (.v (.int .i64 hi))).den] w fun e w' => e = .returned (r_part (⟨a1, a2, a3, a4, a5, a6⟩ : Ar) lo hi).den ∧ Below w.heap.size w w' := by
  obtain ⟨κ, hκ⟩ : ∃ κ : Kp, κ = kid := ⟨_, rfl⟩
  refine pureE FTok [e_formed hκ, e_floor hκ, e_ceil hκ, e_off hκ] mixed [(3, [[], [], [0, 1], [0, 1], [0, 1], [], [0, 1, 2, 3, 4, 5], [0, 1, 2, 3, 4, 5], [0, 1, 2, 3, 4, 5, 6, 7], [0, 1, 5, 6, 7], [0, 1, 5], [6, 7, 10], []])] Tryz.func83 rfl (by kernel_rfl) _ [(0, .agg [.v (.int .i64 a1), .v (.int .i64 a2), .v (.int .i64 a3), .v (.bool a4), .v (.int .i64 a5), .v (.int .i64 a6)]), (1, .c (.v (.int .i64 lo))), (2, .c (.v (.int .i64 hi)))] _ w 55 rfl [.cell 6 49, .tmp 7] rfl (by simp) (by simp [SV.den, C.den]) hκ ?_
  cbv
  repeat' (first | refine And.intro ?_ ?_ | (intro _; cbv) | (refine tst_mk (fun h => ?_) (fun h => ?_) <;> cbv))
  all_goals subst hκ
  all_goals (try delta kid at *)
  all_goals (try simp only [kid] at *)
  all_goals (refine ⟨?_⟩)
  all_goals (try (have h2 : decide (fromA ⟨a1, a2, a3, a4, a5, a6⟩ lo ≥ toA ⟨a1, a2, a3, a4, a5, a6⟩ hi) = true := h; have h3 : hasPart ⟨a1, a2, a3, a4, a5, a6⟩ lo hi = false := (by unfold hasPart; rw [h2]; split <;> rfl); simp only [r_part, partA, h3, Bool.false_eq_true, if_false]; rfl))
  all_goals (try (have h2 : decide (fromA ⟨a1, a2, a3, a4, a5, a6⟩ lo ≥ toA ⟨a1, a2, a3, a4, a5, a6⟩ hi) = false := h; have h3 : hasPart ⟨a1, a2, a3, a4, a5, a6⟩ lo hi = true := (by unfold hasPart; rw [h2]; simp only [*, GT.gt, GE.ge, Bool.or_false, Bool.false_eq_true, if_false, Bool.not_false, Bool.not_true, Bool.false_or]); simp only [r_part, partA, h3, if_true]; rfl))
  all_goals simp only [r_part, SV.den, SV.den0, C.den, partA, hasPart, noAr, fromA, toA, maxI, minI, GT.gt, GE.ge, List.map_cons, List.map_nil]
  all_goals (simp only [*, Bool.not_true, Bool.not_false, Bool.or_true, Bool.true_or, Bool.or_false, Bool.false_or, if_true, if_false, Bool.false_eq_true])
  all_goals (try (have h' := of_decide_eq_true h; simp only [h', decide_true, Bool.not_true, Bool.false_eq_true, if_false]))
  all_goals (try simp only [Bool.not_true, Bool.not_false, Bool.false_eq_true, if_true, if_false])
  all_goals (try rfl)
def e_part {κ : Kp} (hκ : κ = kid) : ESpec Tryz.prog := pureES b_part F_part hκ fun args H s v w0 M w H' hF hs _ _ => by
  unfold F_part at hF
  split at hF
  · rename_i a1 a2 a3 a4 a5 a6 lo hi
    injection hF with hF
    injection hF with h1 h2
    subst h1 h2
    exact k_part a1 a2 a3 a4 a5 a6 lo hi w hs
  · cases hF
end Go.Proofs.YtbcicjmepojlnaaGreat.Eng
