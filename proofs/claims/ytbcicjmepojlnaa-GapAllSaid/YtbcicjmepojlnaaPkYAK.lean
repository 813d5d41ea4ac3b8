/- Texts of this work, laid together: symbolic execution over the model, contracts of the program's functions, what they come to; conditions: as each says. -/
import Derived.Test.YtbcicjmepojlnaaProg
import Derived.KernelRfl
import Derived.Test.YtbcicjmepojlnaaPkYAH
import Derived.Test.YtbcicjmepojlnaaPkYAI
import Derived.Test.YtbcicjmepojlnaaPkYAJ
/- Closed facts on the types of the program; no condition. -/
namespace Go.Proofs.Ytbcicjmepojlnaa.Eng
open Go Go.RowKit
set_option linter.unusedVariables false
set_option maxRecDepth 100000
set_option linter.unusedSimpArgs false
theorem mixed : Try.prog.follows .mixedOrders = true := by kernel_rfl
theorem sz2 : szT Try.prog 2 = some (false, 1) := by kernel_rfl
theorem ze2 : zeroT Try.prog 2 = some [.v (.int .i64 0)] := by kernel_rfl
theorem in2 : intT Try.prog 2 = some .i64 := by kernel_rfl
theorem sz3 : szT Try.prog 3 = some (false, 1) := by kernel_rfl
theorem ze3 : zeroT Try.prog 3 = some [.v (.int .i64 0)] := by kernel_rfl
theorem in3 : intT Try.prog 3 = some .i64 := by kernel_rfl
theorem sz4 : szT Try.prog 4 = some (false, 1) := by kernel_rfl
theorem ze4 : zeroT Try.prog 4 = some [.v (.bool false)] := by kernel_rfl
theorem un4 : Try.prog.underlying 4 = some .bool := by kernel_rfl
theorem sz5 : szT Try.prog 5 = some (false, 1) := by kernel_rfl
theorem ze5 : zeroT Try.prog 5 = some [.v (.int .u8 0)] := by kernel_rfl
theorem in5 : intT Try.prog 5 = some .u8 := by kernel_rfl
theorem sz22 : szT Try.prog 22 = some (false, 1) := by kernel_rfl
theorem ze22 : zeroT Try.prog 22 = some [.sl nilId none 0 0] := by kernel_rfl
theorem sl22 : slT Try.prog 22 = some (53, 6, 48, 6) := by kernel_rfl
theorem sz24 : szT Try.prog 24 = some (true, 9) := by kernel_rfl
theorem ze24 : zeroT Try.prog 24 = some [.v (.int .i64 0), .v (.int .i64 0), .v (.int .i64 0), .v (.int .i64 0), .v (.int .i64 0), .v (.int .i64 0), .v (.int .i64 0), .v (.int .i64 0), .v (.int .i64 0)] := by kernel_rfl
theorem fi24_0 : fieldT Try.prog 24 0 = some 0 := by kernel_rfl
theorem fi24_1 : fieldT Try.prog 24 1 = some 1 := by kernel_rfl
theorem fi24_2 : fieldT Try.prog 24 2 = some 2 := by kernel_rfl
theorem fi24_3 : fieldT Try.prog 24 3 = some 3 := by kernel_rfl
theorem fi24_4 : fieldT Try.prog 24 4 = some 4 := by kernel_rfl
theorem fi24_5 : fieldT Try.prog 24 5 = some 5 := by kernel_rfl
theorem fi24_6 : fieldT Try.prog 24 6 = some 6 := by kernel_rfl
theorem fi24_7 : fieldT Try.prog 24 7 = some 7 := by kernel_rfl
theorem fi24_8 : fieldT Try.prog 24 8 = some 8 := by kernel_rfl
theorem pl24 : placesT Try.prog 24 = some [(0, 1), (1, 1), (2, 1), (3, 1), (4, 1), (5, 1), (6, 1), (7, 1), (8, 1)] := by kernel_rfl
theorem sz27 : szT Try.prog 27 = some (false, 1) := by kernel_rfl
theorem ze27 : zeroT Try.prog 27 = some [.v (.int .i64 0)] := by kernel_rfl
theorem in27 : intT Try.prog 27 = some .i64 := by kernel_rfl
theorem sz29 : szT Try.prog 29 = some (true, 4) := by kernel_rfl
theorem ze29 : zeroT Try.prog 29 = some [.v (.int .i64 0), .v (.bool false), .v (.int .i64 0), .v (.int .i64 0)] := by kernel_rfl
theorem fi29_0 : fieldT Try.prog 29 0 = some 0 := by kernel_rfl
theorem fi29_1 : fieldT Try.prog 29 1 = some 1 := by kernel_rfl
theorem fi29_2 : fieldT Try.prog 29 2 = some 2 := by kernel_rfl
theorem fi29_3 : fieldT Try.prog 29 3 = some 3 := by kernel_rfl
theorem pl29 : placesT Try.prog 29 = some [(0, 1), (1, 1), (2, 1), (3, 1)] := by kernel_rfl
theorem sz31 : szT Try.prog 31 = some (true, 6) := by kernel_rfl
theorem ze31 : zeroT Try.prog 31 = some [.v (.int .i64 0), .v (.int .i64 0), .v (.int .i64 0), .v (.bool false), .v (.int .i64 0), .v (.int .i64 0)] := by kernel_rfl
theorem fi31_0 : fieldT Try.prog 31 0 = some 0 := by kernel_rfl
theorem fi31_1 : fieldT Try.prog 31 1 = some 1 := by kernel_rfl
theorem fi31_2 : fieldT Try.prog 31 2 = some 2 := by kernel_rfl
theorem pl31 : placesT Try.prog 31 = some [(0, 1), (1, 1), (2, 4)] := by kernel_rfl
theorem sz35 : szT Try.prog 35 = some (true, 5) := by kernel_rfl
theorem ze35 : zeroT Try.prog 35 = some [.v (.bool false), .v (.int .i64 0), .v (.bool false), .v (.int .i64 0), .v (.int .i64 0)] := by kernel_rfl
theorem fi35_0 : fieldT Try.prog 35 0 = some 0 := by kernel_rfl
theorem fi35_1 : fieldT Try.prog 35 1 = some 1 := by kernel_rfl
theorem pl35 : placesT Try.prog 35 = some [(0, 1), (1, 4)] := by kernel_rfl
theorem sz37 : szT Try.prog 37 = some (true, 2560) := by kernel_rfl
theorem zr37 : zeroT Try.prog 37 = some (List.replicate 512 [.v (.bool false), .v (.int .i64 0), .v (.bool false), .v (.int .i64 0), .v (.int .i64 0)]).flatten := by kernel_rfl
theorem ar37 : arrT Try.prog 37 = some (512, 5) := by kernel_rfl
theorem sz39 : szT Try.prog 39 = some (false, 1) := by kernel_rfl
theorem ze39 : zeroT Try.prog 39 = some [.sl nilId none 0 0] := by kernel_rfl
theorem sl39 : slT Try.prog 39 = some (42, 2, 16, 2) := by kernel_rfl
theorem sz42 : szT Try.prog 42 = some (true, 2) := by kernel_rfl
theorem ze42 : zeroT Try.prog 42 = some [.v (.int .i64 0), .v (.int .i64 0)] := by kernel_rfl
theorem fi42_0 : fieldT Try.prog 42 0 = some 0 := by kernel_rfl
theorem fi42_1 : fieldT Try.prog 42 1 = some 1 := by kernel_rfl
theorem pl42 : placesT Try.prog 42 = some [(0, 1), (1, 1)] := by kernel_rfl
theorem sz46 : szT Try.prog 46 = some (true, 2) := by kernel_rfl
theorem ze46 : zeroT Try.prog 46 = some [.v (.int .i64 0), .v (.int .i64 0)] := by kernel_rfl
theorem ar46 : arrT Try.prog 46 = some (2, 1) := by kernel_rfl
theorem sz53 : szT Try.prog 53 = some (true, 6) := by kernel_rfl
theorem ze53 : zeroT Try.prog 53 = some [.v (.int .i64 0), .v (.int .i64 0), .v (.int .i64 0), .v (.bool false), .v (.int .i64 0), .v (.int .i64 0)] := by kernel_rfl
theorem fi53_0 : fieldT Try.prog 53 0 = some 0 := by kernel_rfl
theorem fi53_1 : fieldT Try.prog 53 1 = some 1 := by kernel_rfl
theorem fi53_2 : fieldT Try.prog 53 2 = some 2 := by kernel_rfl
theorem fi53_3 : fieldT Try.prog 53 3 = some 3 := by kernel_rfl
theorem fi53_4 : fieldT Try.prog 53 4 = some 4 := by kernel_rfl
theorem fi53_5 : fieldT Try.prog 53 5 = some 5 := by kernel_rfl
theorem pl53 : placesT Try.prog 53 = some [(0, 1), (1, 1), (2, 1), (3, 1), (4, 1), (5, 1)] := by kernel_rfl
theorem sz70 : szT Try.prog 70 = some (false, 1) := by kernel_rfl
theorem ze70 : zeroT Try.prog 70 = some [.sl nilId none 0 0] := by kernel_rfl
theorem sl70 : slT Try.prog 70 = some (2, 1, 8, 1) := by kernel_rfl
theorem sz72 : szT Try.prog 72 = some (true, 4) := by kernel_rfl
theorem ze72 : zeroT Try.prog 72 = some [.v (.int .u8 0), .v (.int .u8 0), .v (.int .u8 0), .v (.int .u8 0)] := by kernel_rfl
theorem ar72 : arrT Try.prog 72 = some (4, 1) := by kernel_rfl
theorem sz83 : szT Try.prog 83 = some (false, 1) := by kernel_rfl
theorem ze83 : zeroT Try.prog 83 = some [.v (.int .u16 0)] := by kernel_rfl
theorem in83 : intT Try.prog 83 = some .u16 := by kernel_rfl
theorem sz86 : szT Try.prog 86 = some (false, 1) := by kernel_rfl
theorem ze86 : zeroT Try.prog 86 = some [.sl nilId none 0 0] := by kernel_rfl
theorem sl86 : slT Try.prog 86 = some (24, 9, 72, 9) := by kernel_rfl
theorem sz88 : szT Try.prog 88 = some (true, 2) := by kernel_rfl
theorem ze88 : zeroT Try.prog 88 = some [.sl nilId none 0 0, .v (.int .i64 0)] := by kernel_rfl
theorem fi88_0 : fieldT Try.prog 88 0 = some 0 := by kernel_rfl
theorem fi88_1 : fieldT Try.prog 88 1 = some 1 := by kernel_rfl
theorem pl88 : placesT Try.prog 88 = some [(0, 1), (1, 1)] := by kernel_rfl
theorem sz89 : szT Try.prog 89 = some (false, 1) := by kernel_rfl
theorem ze89 : zeroT Try.prog 89 = some [.sl nilId none 0 0] := by kernel_rfl
theorem sl89 : slT Try.prog 89 = some (31, 6, 48, 6) := by kernel_rfl
theorem sz126 : szT Try.prog 126 = some (false, 1) := by kernel_rfl
theorem ze126 : zeroT Try.prog 126 = some [.v (.pointer none)] := by kernel_rfl
theorem un126 : Try.prog.underlying 126 = some (.pointer 128) := by kernel_rfl
theorem sz128 : szT Try.prog 128 = some (true, 25) := by kernel_rfl
theorem ze128 : zeroT Try.prog 128 = some [.sl nilId none 0 0, .v (.int .i64 0), .v (.int .i64 0), .v (.int .i64 0), .v (.int .i64 0), .v (.int .i64 0), .v (.int .i64 0), .v (.int .i64 0), .v (.int .i64 0), .v (.int .i64 0), .v (.int .i64 0), .v (.int .i64 0), .v (.int .i64 0), .v (.int .i64 0), .v (.int .i64 0), .v (.int .i64 0), .v (.bool false), .v (.int .i64 0), .v (.int .i64 0), .v (.int .i64 0), .v (.int .i64 0), .v (.int .i64 0), .v (.bool false), .v (.int .i64 0), .v (.int .i64 0)] := by kernel_rfl
theorem fi128_0 : fieldT Try.prog 128 0 = some 0 := by kernel_rfl
theorem fi128_1 : fieldT Try.prog 128 1 = some 1 := by kernel_rfl
theorem fi128_2 : fieldT Try.prog 128 2 = some 10 := by kernel_rfl
theorem fi128_3 : fieldT Try.prog 128 3 = some 11 := by kernel_rfl
theorem fi128_4 : fieldT Try.prog 128 4 = some 12 := by kernel_rfl
theorem fi128_5 : fieldT Try.prog 128 5 = some 13 := by kernel_rfl
theorem fi128_6 : fieldT Try.prog 128 6 = some 19 := by kernel_rfl
theorem pl128 : placesT Try.prog 128 = some [(0, 1), (1, 9), (10, 1), (11, 1), (12, 1), (13, 6), (19, 6)] := by kernel_rfl
theorem sz140 : szT Try.prog 140 = some (false, 1) := by kernel_rfl
theorem ze140 : zeroT Try.prog 140 = some [.sl nilId none 0 0] := by kernel_rfl
theorem sl140 : slT Try.prog 140 = some (22, 1, 24, 1) := by kernel_rfl
theorem eqD24 (d : Nat) (x0 y0 : Int) (x1 y1 : Int) (x2 y2 : Int) (x3 y3 : Int) (x4 y4 : Int) (x5 y5 : Int) (x6 y6 : Int) (x7 y7 : Int) (x8 y8 : Int) (w : World) : (Op.equalIn (d + 2) 24 (.agg #[.int .i64 x0, .int .i64 x1, .int .i64 x2, .int .i64 x3, .int .i64 x4, .int .i64 x5, .int .i64 x6, .int .i64 x7, .int .i64 x8]) (.agg #[.int .i64 y0, .int .i64 y1, .int .i64 y2, .int .i64 y3, .int .i64 y4, .int .i64 y5, .int .i64 y6, .int .i64 y7, .int .i64 y8])).run Try.prog w = .ok ((x0 == y0) && ((x1 == y1) && ((x2 == y2) && ((x3 == y3) && ((x4 == y4) && ((x5 == y5) && ((x6 == y6) && ((x7 == y7) && ((x8 == y8) && true))))))))) w := by
  refine sEq_of Try.underlying24 (by kernel_rfl) ?_
  refine sEq_cons (by decide) (sPart_one sz3 rfl) (sPart_one sz3 rfl) (sEq_int in3) ?_
  refine sEq_cons (by decide) (sPart_one sz2 rfl) (sPart_one sz2 rfl) (sEq_int in2) ?_
  refine sEq_cons (by decide) (sPart_one sz2 rfl) (sPart_one sz2 rfl) (sEq_int in2) ?_
  refine sEq_cons (by decide) (sPart_one sz2 rfl) (sPart_one sz2 rfl) (sEq_int in2) ?_
  refine sEq_cons (by decide) (sPart_one sz2 rfl) (sPart_one sz2 rfl) (sEq_int in2) ?_
  refine sEq_cons (by decide) (sPart_one sz3 rfl) (sPart_one sz3 rfl) (sEq_int in3) ?_
  refine sEq_cons (by decide) (sPart_one sz3 rfl) (sPart_one sz3 rfl) (sEq_int in3) ?_
  refine sEq_cons (by decide) (sPart_one sz3 rfl) (sPart_one sz3 rfl) (sEq_int in3) ?_
  refine sEq_cons (by decide) (sPart_one sz2 rfl) (sPart_one sz2 rfl) (sEq_int in2) ?_
  exact sEq_nil
theorem eqT24 (xs ys : List C) (r : Bool) (h0 : eqCells [.int .i64, .int .i64, .int .i64, .int .i64, .int .i64, .int .i64, .int .i64, .int .i64, .int .i64] xs ys = some r) : EqFact Try.prog 24 xs ys r := by
  obtain ⟨x0, y0, xs1, ys1, r1, rfl, rfl, h1, rfl⟩ := eqCells_int h0
  obtain ⟨x1, y1, xs2, ys2, r2, rfl, rfl, h2, rfl⟩ := eqCells_int h1
  obtain ⟨x2, y2, xs3, ys3, r3, rfl, rfl, h3, rfl⟩ := eqCells_int h2
  obtain ⟨x3, y3, xs4, ys4, r4, rfl, rfl, h4, rfl⟩ := eqCells_int h3
  obtain ⟨x4, y4, xs5, ys5, r5, rfl, rfl, h5, rfl⟩ := eqCells_int h4
  obtain ⟨x5, y5, xs6, ys6, r6, rfl, rfl, h6, rfl⟩ := eqCells_int h5
  obtain ⟨x6, y6, xs7, ys7, r7, rfl, rfl, h7, rfl⟩ := eqCells_int h6
  obtain ⟨x7, y7, xs8, ys8, r8, rfl, rfl, h8, rfl⟩ := eqCells_int h7
  obtain ⟨x8, y8, xs9, ys9, r9, rfl, rfl, h9, rfl⟩ := eqCells_int h8
  obtain ⟨rfl, rfl, rfl⟩ := eqCells_nil h9
  refine ⟨by kernel_rfl, fun w => ?_⟩
  exact eqD24 9998 x0 y0 x1 y1 x2 y2 x3 y3 x4 y4 x5 y5 x6 y6 x7 y7 x8 y8 w
theorem eqD29 (d : Nat) (x0 y0 : Int) (x1 y1 : Bool) (x2 y2 : Int) (x3 y3 : Int) (w : World) : (Op.equalIn (d + 2) 29 (.agg #[.int .i64 x0, .bool x1, .int .i64 x2, .int .i64 x3]) (.agg #[.int .i64 y0, .bool y1, .int .i64 y2, .int .i64 y3])).run Try.prog w = .ok ((x0 == y0) && ((x1 == y1) && ((x2 == y2) && ((x3 == y3) && true)))) w := by
  refine sEq_of Try.underlying29 (by kernel_rfl) ?_
  refine sEq_cons (by decide) (sPart_one sz3 rfl) (sPart_one sz3 rfl) (sEq_int in3) ?_
  refine sEq_cons (by decide) (sPart_one sz4 rfl) (sPart_one sz4 rfl) (sEq_bool un4) ?_
  refine sEq_cons (by decide) (sPart_one sz3 rfl) (sPart_one sz3 rfl) (sEq_int in3) ?_
  refine sEq_cons (by decide) (sPart_one sz2 rfl) (sPart_one sz2 rfl) (sEq_int in2) ?_
  exact sEq_nil
theorem eqT29 (xs ys : List C) (r : Bool) (h0 : eqCells [.int .i64, .bool, .int .i64, .int .i64] xs ys = some r) : EqFact Try.prog 29 xs ys r := by
  obtain ⟨x0, y0, xs1, ys1, r1, rfl, rfl, h1, rfl⟩ := eqCells_int h0
  obtain ⟨x1, y1, xs2, ys2, r2, rfl, rfl, h2, rfl⟩ := eqCells_bool h1
  obtain ⟨x2, y2, xs3, ys3, r3, rfl, rfl, h3, rfl⟩ := eqCells_int h2
  obtain ⟨x3, y3, xs4, ys4, r4, rfl, rfl, h4, rfl⟩ := eqCells_int h3
  obtain ⟨rfl, rfl, rfl⟩ := eqCells_nil h4
  refine ⟨by kernel_rfl, fun w => ?_⟩
  exact eqD29 9998 x0 y0 x1 y1 x2 y2 x3 y3 w
theorem eqD31 (d : Nat) (x0 y0 : Int) (x1 y1 : Int) (x2 y2 : Int) (x3 y3 : Bool) (x4 y4 : Int) (x5 y5 : Int) (w : World) : (Op.equalIn (d + 3) 31 (.agg #[.int .i64 x0, .int .i64 x1, .int .i64 x2, .bool x3, .int .i64 x4, .int .i64 x5]) (.agg #[.int .i64 y0, .int .i64 y1, .int .i64 y2, .bool y3, .int .i64 y4, .int .i64 y5])).run Try.prog w = .ok ((x0 == y0) && ((x1 == y1) && (((x2 == y2) && ((x3 == y3) && ((x4 == y4) && ((x5 == y5) && true)))) && true))) w := by
  refine sEq_of Try.underlying31 (by kernel_rfl) ?_
  refine sEq_cons (by decide) (sPart_one sz27 rfl) (sPart_one sz27 rfl) (sEq_int in27) ?_
  refine sEq_cons (by decide) (sPart_one sz2 rfl) (sPart_one sz2 rfl) (sEq_int in2) ?_
  refine sEq_cons (by decide) (sPart_agg sz29 rfl) (sPart_agg sz29 rfl) (eqD29 d x2 y2 x3 y3 x4 y4 x5 y5 w) ?_
  exact sEq_nil
theorem eqT31 (xs ys : List C) (r : Bool) (h0 : eqCells [.int .i64, .int .i64, .int .i64, .bool, .int .i64, .int .i64] xs ys = some r) : EqFact Try.prog 31 xs ys r := by
  obtain ⟨x0, y0, xs1, ys1, r1, rfl, rfl, h1, rfl⟩ := eqCells_int h0
  obtain ⟨x1, y1, xs2, ys2, r2, rfl, rfl, h2, rfl⟩ := eqCells_int h1
  obtain ⟨x2, y2, xs3, ys3, r3, rfl, rfl, h3, rfl⟩ := eqCells_int h2
  obtain ⟨x3, y3, xs4, ys4, r4, rfl, rfl, h4, rfl⟩ := eqCells_bool h3
  obtain ⟨x4, y4, xs5, ys5, r5, rfl, rfl, h5, rfl⟩ := eqCells_int h4
  obtain ⟨x5, y5, xs6, ys6, r6, rfl, rfl, h6, rfl⟩ := eqCells_int h5
  obtain ⟨rfl, rfl, rfl⟩ := eqCells_nil h6
  refine ⟨by kernel_rfl, fun w => ?_⟩
  have := eqD31 9997 x0 y0 x1 y1 x2 y2 x3 y3 x4 y4 x5 y5 w
  simp only [Bool.and_assoc, Bool.and_true, Bool.true_and] at this ⊢
  exact this
theorem eqD35 (d : Nat) (x0 y0 : Bool) (x1 y1 : Int) (x2 y2 : Bool) (x3 y3 : Int) (x4 y4 : Int) (w : World) : (Op.equalIn (d + 3) 35 (.agg #[.bool x0, .int .i64 x1, .bool x2, .int .i64 x3, .int .i64 x4]) (.agg #[.bool y0, .int .i64 y1, .bool y2, .int .i64 y3, .int .i64 y4])).run Try.prog w = .ok ((x0 == y0) && (((x1 == y1) && ((x2 == y2) && ((x3 == y3) && ((x4 == y4) && true)))) && true)) w := by
  refine sEq_of Try.underlying35 (by kernel_rfl) ?_
  refine sEq_cons (by decide) (sPart_one sz4 rfl) (sPart_one sz4 rfl) (sEq_bool un4) ?_
  refine sEq_cons (by decide) (sPart_agg sz29 rfl) (sPart_agg sz29 rfl) (eqD29 d x1 y1 x2 y2 x3 y3 x4 y4 w) ?_
  exact sEq_nil
theorem eqT35 (xs ys : List C) (r : Bool) (h0 : eqCells [.bool, .int .i64, .bool, .int .i64, .int .i64] xs ys = some r) : EqFact Try.prog 35 xs ys r := by
  obtain ⟨x0, y0, xs1, ys1, r1, rfl, rfl, h1, rfl⟩ := eqCells_bool h0
  obtain ⟨x1, y1, xs2, ys2, r2, rfl, rfl, h2, rfl⟩ := eqCells_int h1
  obtain ⟨x2, y2, xs3, ys3, r3, rfl, rfl, h3, rfl⟩ := eqCells_bool h2
  obtain ⟨x3, y3, xs4, ys4, r4, rfl, rfl, h4, rfl⟩ := eqCells_int h3
  obtain ⟨x4, y4, xs5, ys5, r5, rfl, rfl, h5, rfl⟩ := eqCells_int h4
  obtain ⟨rfl, rfl, rfl⟩ := eqCells_nil h5
  refine ⟨by kernel_rfl, fun w => ?_⟩
  have := eqD35 9997 x0 y0 x1 y1 x2 y2 x3 y3 x4 y4 w
  simp only [Bool.and_assoc, Bool.and_true, Bool.true_and] at this ⊢
  exact this
theorem eqD42 (d : Nat) (x0 y0 : Int) (x1 y1 : Int) (w : World) : (Op.equalIn (d + 2) 42 (.agg #[.int .i64 x0, .int .i64 x1]) (.agg #[.int .i64 y0, .int .i64 y1])).run Try.prog w = .ok ((x0 == y0) && ((x1 == y1) && true)) w := by
  refine sEq_of Try.underlying42 (by kernel_rfl) ?_
  refine sEq_cons (by decide) (sPart_one sz2 rfl) (sPart_one sz2 rfl) (sEq_int in2) ?_
  refine sEq_cons (by decide) (sPart_one sz2 rfl) (sPart_one sz2 rfl) (sEq_int in2) ?_
  exact sEq_nil
theorem eqT42 (xs ys : List C) (r : Bool) (h0 : eqCells [.int .i64, .int .i64] xs ys = some r) : EqFact Try.prog 42 xs ys r := by
  obtain ⟨x0, y0, xs1, ys1, r1, rfl, rfl, h1, rfl⟩ := eqCells_int h0
  obtain ⟨x1, y1, xs2, ys2, r2, rfl, rfl, h2, rfl⟩ := eqCells_int h1
  obtain ⟨rfl, rfl, rfl⟩ := eqCells_nil h2
  refine ⟨by kernel_rfl, fun w => ?_⟩
  exact eqD42 9998 x0 y0 x1 y1 w
theorem eqD53 (d : Nat) (x0 y0 : Int) (x1 y1 : Int) (x2 y2 : Int) (x3 y3 : Bool) (x4 y4 : Int) (x5 y5 : Int) (w : World) : (Op.equalIn (d + 2) 53 (.agg #[.int .i64 x0, .int .i64 x1, .int .i64 x2, .bool x3, .int .i64 x4, .int .i64 x5]) (.agg #[.int .i64 y0, .int .i64 y1, .int .i64 y2, .bool y3, .int .i64 y4, .int .i64 y5])).run Try.prog w = .ok ((x0 == y0) && ((x1 == y1) && ((x2 == y2) && ((x3 == y3) && ((x4 == y4) && ((x5 == y5) && true)))))) w := by
  refine sEq_of Try.underlying53 (by kernel_rfl) ?_
  refine sEq_cons (by decide) (sPart_one sz2 rfl) (sPart_one sz2 rfl) (sEq_int in2) ?_
  refine sEq_cons (by decide) (sPart_one sz2 rfl) (sPart_one sz2 rfl) (sEq_int in2) ?_
  refine sEq_cons (by decide) (sPart_one sz3 rfl) (sPart_one sz3 rfl) (sEq_int in3) ?_
  refine sEq_cons (by decide) (sPart_one sz4 rfl) (sPart_one sz4 rfl) (sEq_bool un4) ?_
  refine sEq_cons (by decide) (sPart_one sz3 rfl) (sPart_one sz3 rfl) (sEq_int in3) ?_
  refine sEq_cons (by decide) (sPart_one sz2 rfl) (sPart_one sz2 rfl) (sEq_int in2) ?_
  exact sEq_nil
theorem eqT53 (xs ys : List C) (r : Bool) (h0 : eqCells [.int .i64, .int .i64, .int .i64, .bool, .int .i64, .int .i64] xs ys = some r) : EqFact Try.prog 53 xs ys r := by
  obtain ⟨x0, y0, xs1, ys1, r1, rfl, rfl, h1, rfl⟩ := eqCells_int h0
  obtain ⟨x1, y1, xs2, ys2, r2, rfl, rfl, h2, rfl⟩ := eqCells_int h1
  obtain ⟨x2, y2, xs3, ys3, r3, rfl, rfl, h3, rfl⟩ := eqCells_int h2
  obtain ⟨x3, y3, xs4, ys4, r4, rfl, rfl, h4, rfl⟩ := eqCells_bool h3
  obtain ⟨x4, y4, xs5, ys5, r5, rfl, rfl, h5, rfl⟩ := eqCells_int h4
  obtain ⟨x5, y5, xs6, ys6, r6, rfl, rfl, h6, rfl⟩ := eqCells_int h5
  obtain ⟨rfl, rfl, rfl⟩ := eqCells_nil h6
  refine ⟨by kernel_rfl, fun w => ?_⟩
  exact eqD53 9998 x0 y0 x1 y1 x2 y2 x3 y3 x4 y4 x5 y5 w
theorem fl24 (k o : Nat) (h : [0, 1, 2, 3, 4, 5, 6, 7, 8][k]? = some o) : fieldT Try.prog 24 k = some o := by
  match k, h with
  | 0, h => injection h with h; subst h; exact fi24_0
  | 1, h => injection h with h; subst h; exact fi24_1
  | 2, h => injection h with h; subst h; exact fi24_2
  | 3, h => injection h with h; subst h; exact fi24_3
  | 4, h => injection h with h; subst h; exact fi24_4
  | 5, h => injection h with h; subst h; exact fi24_5
  | 6, h => injection h with h; subst h; exact fi24_6
  | 7, h => injection h with h; subst h; exact fi24_7
  | 8, h => injection h with h; subst h; exact fi24_8
  | k + 9, h => simp at h
theorem fl29 (k o : Nat) (h : [0, 1, 2, 3][k]? = some o) : fieldT Try.prog 29 k = some o := by
  match k, h with
  | 0, h => injection h with h; subst h; exact fi29_0
  | 1, h => injection h with h; subst h; exact fi29_1
  | 2, h => injection h with h; subst h; exact fi29_2
  | 3, h => injection h with h; subst h; exact fi29_3
  | k + 4, h => simp at h
theorem fl31 (k o : Nat) (h : [0, 1, 2][k]? = some o) : fieldT Try.prog 31 k = some o := by
  match k, h with
  | 0, h => injection h with h; subst h; exact fi31_0
  | 1, h => injection h with h; subst h; exact fi31_1
  | 2, h => injection h with h; subst h; exact fi31_2
  | k + 3, h => simp at h
theorem fl35 (k o : Nat) (h : [0, 1][k]? = some o) : fieldT Try.prog 35 k = some o := by
  match k, h with
  | 0, h => injection h with h; subst h; exact fi35_0
  | 1, h => injection h with h; subst h; exact fi35_1
  | k + 2, h => simp at h
theorem fl42 (k o : Nat) (h : [0, 1][k]? = some o) : fieldT Try.prog 42 k = some o := by
  match k, h with
  | 0, h => injection h with h; subst h; exact fi42_0
  | 1, h => injection h with h; subst h; exact fi42_1
  | k + 2, h => simp at h
theorem fl53 (k o : Nat) (h : [0, 1, 2, 3, 4, 5][k]? = some o) : fieldT Try.prog 53 k = some o := by
  match k, h with
  | 0, h => injection h with h; subst h; exact fi53_0
  | 1, h => injection h with h; subst h; exact fi53_1
  | 2, h => injection h with h; subst h; exact fi53_2
  | 3, h => injection h with h; subst h; exact fi53_3
  | 4, h => injection h with h; subst h; exact fi53_4
  | 5, h => injection h with h; subst h; exact fi53_5
  | k + 6, h => simp at h
theorem fl88 (k o : Nat) (h : [0, 1][k]? = some o) : fieldT Try.prog 88 k = some o := by
  match k, h with
  | 0, h => injection h with h; subst h; exact fi88_0
  | 1, h => injection h with h; subst h; exact fi88_1
  | k + 2, h => simp at h
theorem fl128 (k o : Nat) (h : [0, 1, 10, 11, 12, 13, 19][k]? = some o) : fieldT Try.prog 128 k = some o := by
  match k, h with
  | 0, h => injection h with h; subst h; exact fi128_0
  | 1, h => injection h with h; subst h; exact fi128_1
  | 2, h => injection h with h; subst h; exact fi128_2
  | 3, h => injection h with h; subst h; exact fi128_3
  | 4, h => injection h with h; subst h; exact fi128_4
  | 5, h => injection h with h; subst h; exact fi128_5
  | 6, h => injection h with h; subst h; exact fi128_6
  | k + 7, h => simp at h
def FT : TT where
  sz := [(2, (false, 1)), (3, (false, 1)), (4, (false, 1)), (5, (false, 1)), (22, (false, 1)), (24, (true, 9)), (27, (false, 1)), (29, (true, 4)), (31, (true, 6)), (35, (true, 5)), (37, (true, 2560)), (39, (false, 1)), (42, (true, 2)), (46, (true, 2)), (53, (true, 6)), (70, (false, 1)), (72, (true, 4)), (83, (false, 1)), (86, (false, 1)), (88, (true, 2)), (89, (false, 1)), (126, (false, 1)), (128, (true, 25)), (140, (false, 1))]
  ze := [(2, [.v (.int .i64 0)]), (3, [.v (.int .i64 0)]), (4, [.v (.bool false)]), (5, [.v (.int .u8 0)]), (22, [.sl nilId none 0 0]), (24, [.v (.int .i64 0), .v (.int .i64 0), .v (.int .i64 0), .v (.int .i64 0), .v (.int .i64 0), .v (.int .i64 0), .v (.int .i64 0), .v (.int .i64 0), .v (.int .i64 0)]), (27, [.v (.int .i64 0)]), (29, [.v (.int .i64 0), .v (.bool false), .v (.int .i64 0), .v (.int .i64 0)]), (31, [.v (.int .i64 0), .v (.int .i64 0), .v (.int .i64 0), .v (.bool false), .v (.int .i64 0), .v (.int .i64 0)]), (35, [.v (.bool false), .v (.int .i64 0), .v (.bool false), .v (.int .i64 0), .v (.int .i64 0)]), (39, [.sl nilId none 0 0]), (42, [.v (.int .i64 0), .v (.int .i64 0)]), (46, [.v (.int .i64 0), .v (.int .i64 0)]), (53, [.v (.int .i64 0), .v (.int .i64 0), .v (.int .i64 0), .v (.bool false), .v (.int .i64 0), .v (.int .i64 0)]), (70, [.sl nilId none 0 0]), (72, [.v (.int .u8 0), .v (.int .u8 0), .v (.int .u8 0), .v (.int .u8 0)]), (83, [.v (.int .u16 0)]), (86, [.sl nilId none 0 0]), (88, [.sl nilId none 0 0, .v (.int .i64 0)]), (89, [.sl nilId none 0 0]), (126, [.v (.pointer none)]), (128, [.sl nilId none 0 0, .v (.int .i64 0), .v (.int .i64 0), .v (.int .i64 0), .v (.int .i64 0), .v (.int .i64 0), .v (.int .i64 0), .v (.int .i64 0), .v (.int .i64 0), .v (.int .i64 0), .v (.int .i64 0), .v (.int .i64 0), .v (.int .i64 0), .v (.int .i64 0), .v (.int .i64 0), .v (.int .i64 0), .v (.bool false), .v (.int .i64 0), .v (.int .i64 0), .v (.int .i64 0), .v (.int .i64 0), .v (.int .i64 0), .v (.bool false), .v (.int .i64 0), .v (.int .i64 0)]), (140, [.sl nilId none 0 0])]
  fi := [(24, [0, 1, 2, 3, 4, 5, 6, 7, 8]), (29, [0, 1, 2, 3]), (31, [0, 1, 2]), (35, [0, 1]), (42, [0, 1]), (53, [0, 1, 2, 3, 4, 5]), (88, [0, 1]), (128, [0, 1, 10, 11, 12, 13, 19])]
  pl := [(24, [(0, 1), (1, 1), (2, 1), (3, 1), (4, 1), (5, 1), (6, 1), (7, 1), (8, 1)]), (29, [(0, 1), (1, 1), (2, 1), (3, 1)]), (31, [(0, 1), (1, 1), (2, 4)]), (35, [(0, 1), (1, 4)]), (42, [(0, 1), (1, 1)]), (53, [(0, 1), (1, 1), (2, 1), (3, 1), (4, 1), (5, 1)]), (88, [(0, 1), (1, 1)]), (128, [(0, 1), (1, 9), (10, 1), (11, 1), (12, 1), (13, 6), (19, 6)])]
  ar := [(37, (512, 5)), (46, (2, 1)), (72, (4, 1))]
  sl := [(22, (53, 6, 48, 6)), (39, (42, 2, 16, 2)), (70, (2, 1, 8, 1)), (86, (24, 9, 72, 9)), (89, (31, 6, 48, 6)), (140, (22, 1, 24, 1))]
  int := [(2, .i64), (3, .i64), (5, .u8), (27, .i64), (83, .u16)]
  bool := [(4, ())]
  eq := [(24, [.int .i64, .int .i64, .int .i64, .int .i64, .int .i64, .int .i64, .int .i64, .int .i64, .int .i64]), (29, [.int .i64, .bool, .int .i64, .int .i64]), (31, [.int .i64, .int .i64, .int .i64, .bool, .int .i64, .int .i64]), (35, [.bool, .int .i64, .bool, .int .i64, .int .i64]), (42, [.int .i64, .int .i64]), (53, [.int .i64, .int .i64, .int .i64, .bool, .int .i64, .int .i64])]
  ptr := [(126, ())]
  zr := [(37, (512, [.v (.bool false), .v (.int .i64 0), .v (.bool false), .v (.int .i64 0), .v (.int .i64 0)]))]
  refs := [22, 88, 128]
theorem FTok : TTok Try.prog FT where
  sz := List.forall_mem_cons.2 ⟨sz2, List.forall_mem_cons.2 ⟨sz3, List.forall_mem_cons.2 ⟨sz4, List.forall_mem_cons.2 ⟨sz5, List.forall_mem_cons.2 ⟨sz22, List.forall_mem_cons.2 ⟨sz24, List.forall_mem_cons.2 ⟨sz27, List.forall_mem_cons.2 ⟨sz29, List.forall_mem_cons.2 ⟨sz31, List.forall_mem_cons.2 ⟨sz35, List.forall_mem_cons.2 ⟨sz37, List.forall_mem_cons.2 ⟨sz39, List.forall_mem_cons.2 ⟨sz42, List.forall_mem_cons.2 ⟨sz46, List.forall_mem_cons.2 ⟨sz53, List.forall_mem_cons.2 ⟨sz70, List.forall_mem_cons.2 ⟨sz72, List.forall_mem_cons.2 ⟨sz83, List.forall_mem_cons.2 ⟨sz86, List.forall_mem_cons.2 ⟨sz88, List.forall_mem_cons.2 ⟨sz89, List.forall_mem_cons.2 ⟨sz126, List.forall_mem_cons.2 ⟨sz128, List.forall_mem_cons.2 ⟨sz140, List.forall_mem_nil _⟩⟩⟩⟩⟩⟩⟩⟩⟩⟩⟩⟩⟩⟩⟩⟩⟩⟩⟩⟩⟩⟩⟩⟩
  ze := List.forall_mem_cons.2 ⟨ze2, List.forall_mem_cons.2 ⟨ze3, List.forall_mem_cons.2 ⟨ze4, List.forall_mem_cons.2 ⟨ze5, List.forall_mem_cons.2 ⟨ze22, List.forall_mem_cons.2 ⟨ze24, List.forall_mem_cons.2 ⟨ze27, List.forall_mem_cons.2 ⟨ze29, List.forall_mem_cons.2 ⟨ze31, List.forall_mem_cons.2 ⟨ze35, List.forall_mem_cons.2 ⟨ze39, List.forall_mem_cons.2 ⟨ze42, List.forall_mem_cons.2 ⟨ze46, List.forall_mem_cons.2 ⟨ze53, List.forall_mem_cons.2 ⟨ze70, List.forall_mem_cons.2 ⟨ze72, List.forall_mem_cons.2 ⟨ze83, List.forall_mem_cons.2 ⟨ze86, List.forall_mem_cons.2 ⟨ze88, List.forall_mem_cons.2 ⟨ze89, List.forall_mem_cons.2 ⟨ze126, List.forall_mem_cons.2 ⟨ze128, List.forall_mem_cons.2 ⟨ze140, List.forall_mem_nil _⟩⟩⟩⟩⟩⟩⟩⟩⟩⟩⟩⟩⟩⟩⟩⟩⟩⟩⟩⟩⟩⟩⟩
  fi := List.forall_mem_cons.2 ⟨fl24, List.forall_mem_cons.2 ⟨fl29, List.forall_mem_cons.2 ⟨fl31, List.forall_mem_cons.2 ⟨fl35, List.forall_mem_cons.2 ⟨fl42, List.forall_mem_cons.2 ⟨fl53, List.forall_mem_cons.2 ⟨fl88, List.forall_mem_cons.2 ⟨fl128, List.forall_mem_nil _⟩⟩⟩⟩⟩⟩⟩⟩
  pl := List.forall_mem_cons.2 ⟨pl24, List.forall_mem_cons.2 ⟨pl29, List.forall_mem_cons.2 ⟨pl31, List.forall_mem_cons.2 ⟨pl35, List.forall_mem_cons.2 ⟨pl42, List.forall_mem_cons.2 ⟨pl53, List.forall_mem_cons.2 ⟨pl88, List.forall_mem_cons.2 ⟨pl128, List.forall_mem_nil _⟩⟩⟩⟩⟩⟩⟩⟩
  ar := List.forall_mem_cons.2 ⟨ar37, List.forall_mem_cons.2 ⟨ar46, List.forall_mem_cons.2 ⟨ar72, List.forall_mem_nil _⟩⟩⟩
  sl := List.forall_mem_cons.2 ⟨sl22, List.forall_mem_cons.2 ⟨sl39, List.forall_mem_cons.2 ⟨sl70, List.forall_mem_cons.2 ⟨sl86, List.forall_mem_cons.2 ⟨sl89, List.forall_mem_cons.2 ⟨sl140, List.forall_mem_nil _⟩⟩⟩⟩⟩⟩
  int := List.forall_mem_cons.2 ⟨in2, List.forall_mem_cons.2 ⟨in3, List.forall_mem_cons.2 ⟨in5, List.forall_mem_cons.2 ⟨in27, List.forall_mem_cons.2 ⟨in83, List.forall_mem_nil _⟩⟩⟩⟩⟩
  bool := List.forall_mem_cons.2 ⟨un4, List.forall_mem_nil _⟩
  eq := List.forall_mem_cons.2 ⟨eqT24, List.forall_mem_cons.2 ⟨eqT29, List.forall_mem_cons.2 ⟨eqT31, List.forall_mem_cons.2 ⟨eqT35, List.forall_mem_cons.2 ⟨eqT42, List.forall_mem_cons.2 ⟨eqT53, List.forall_mem_nil _⟩⟩⟩⟩⟩⟩
  ptr := List.forall_mem_cons.2 ⟨⟨_, un126⟩, List.forall_mem_nil _⟩
  zr := List.forall_mem_cons.2 ⟨zr37, List.forall_mem_nil _⟩
end Go.Proofs.Ytbcicjmepojlnaa.Eng
/- Contracts of functions (printed by gen.py of this work): what each hands back; condition: as its 'hside' says. -/
namespace Go.Proofs.Ytbcicjmepojlnaa.Eng
open Go Go.RowKit
set_option linter.unusedVariables false
set_option linter.unusedSimpArgs false
theorem b_whole : Bodied Try.prog 146 := bodied Try.func146 rfl (by decide)
def r_whole (n : Int) : SV := .c (.v (.bool (whole n)))
def F_whole (κ : Kp) : List SV → Heap → Option (Prop × SV) := fun args _ => match args with
  | [.c (.v (.int .i64 n))] => some (κ _ (True), .c (.v (.bool (κ _ (whole n)))))
  | _ => none
set_option maxRecDepth 100000 in
set_option maxHeartbeats 4000000 in
theorem k_whole (n : Int) (w : World) (hside : True) : Calls Try.prog 146 #[(SV.c (.v (.int .i64 n))).den] w fun e w' => e = .returned (r_whole n).den ∧ Below w.heap.size w w' := by
  obtain ⟨κ, hκ⟩ : ∃ κ : Kp, κ = kid := ⟨_, rfl⟩
  refine pureE FTok [] mixed [] Try.func146 rfl (by kernel_rfl) _ [(0, .c (.v (.int .i64 n)))] _ w 6 rfl [.tmp 2] rfl (by simp) (by simp [SV.den, C.den]) hκ ?_
  cbv
  repeat' (first | refine And.intro ?_ ?_ | (intro _; cbv) | (refine tst_mk (fun h => ?_) (fun h => ?_) <;> cbv))
  all_goals subst hκ
  all_goals (try delta kid at *)
  all_goals (try simp only [kid] at *)
  all_goals (refine ⟨?_⟩)
  all_goals (try (simp_all [r_whole, SV.den, C.den, SV.den0, whole]; done))
  all_goals (try simp_all [r_whole, SV.den, C.den, SV.den0, whole])
  all_goals (try (rw [Bool.eq_iff_iff]; simp only [Bool.and_eq_true, Bool.or_eq_true, decide_eq_true_eq, Bool.not_eq_true', decide_eq_false_iff_not, beq_iff_eq]; omega))
  all_goals (try omega)
def e_whole {κ : Kp} (hκ : κ = kid) : ESpec Try.prog := pureES b_whole F_whole hκ fun args H s v w0 M w H' hF hs _ _ => by
  unfold F_whole at hF
  split at hF
  · rename_i n
    injection hF with hF
    injection hF with h1 h2
    subst h1 h2
    exact k_whole n w hs
  · cases hF
theorem b_formed : Bodied Try.prog 104 := bodied Try.func104 rfl (by decide)
def r_formed (a : Ar) : SV := .c (.v (.bool (formed a)))
def F_formed (κ : Kp) : List SV → Heap → Option (Prop × SV) := fun args _ => match args with
  | [.agg [.v (.int .i64 a1), .v (.int .i64 a2), .v (.int .i64 a3), .v (.bool a4), .v (.int .i64 a5), .v (.int .i64 a6)]] => some (κ _ (True), .c (.v (.bool (κ _ (formed (⟨a1, a2, a3, a4, a5, a6⟩ : Ar))))))
  | _ => none
set_option maxRecDepth 100000 in
set_option maxHeartbeats 4000000 in
theorem k_formed (a1 : Int) (a2 : Int) (a3 : Int) (a4 : Bool) (a5 : Int) (a6 : Int) (w : World) (hside : True) : Calls Try.prog 104 #[(SV.agg [.v (.int .i64 a1), .v (.int .i64 a2), .v (.int .i64 a3), .v (.bool a4), .v (.int .i64 a5), .v (.int .i64 a6)]).den] w fun e w' => e = .returned (r_formed (⟨a1, a2, a3, a4, a5, a6⟩ : Ar)).den ∧ Below w.heap.size w w' := by
  obtain ⟨κ, hκ⟩ : ∃ κ : Kp, κ = kid := ⟨_, rfl⟩
  refine pureE FTok [e_whole hκ] mixed [] Try.func104 rfl (by kernel_rfl) _ [(0, .agg [.v (.int .i64 a1), .v (.int .i64 a2), .v (.int .i64 a3), .v (.bool a4), .v (.int .i64 a5), .v (.int .i64 a6)])] _ w 75 rfl [.tmp 2] rfl (by simp) (by simp [SV.den, C.den]) hκ ?_
  cbv
  repeat' (first | refine And.intro ?_ ?_ | (intro _; cbv) | (refine tst_mk (fun h => ?_) (fun h => ?_) <;> cbv))
  all_goals subst hκ
  all_goals (try delta kid at *)
  all_goals (try simp only [kid] at *)
  all_goals (refine ⟨?_⟩)
  all_goals simp only [r_formed, SV.den, C.den, formed, w64, Value.bool.injEq]
  all_goals (try simp only [Bool.not_eq_true', Bool.not_eq_false'] at *)
  all_goals (simp only [*, Bool.not_true, Bool.not_false, Bool.or_true, Bool.true_or, Bool.or_false, Bool.false_or, Bool.and_true, Bool.true_and, Bool.and_false, Bool.false_and, if_true, if_false, GT.gt, GE.ge, Bool.false_eq_true, beq_iff_eq])
  all_goals (try simp_all)
  all_goals (try rfl)
def e_formed {κ : Kp} (hκ : κ = kid) : ESpec Try.prog := pureES b_formed F_formed hκ fun args H s v w0 M w H' hF hs _ _ => by
  unfold F_formed at hF
  split at hF
  · rename_i a1 a2 a3 a4 a5 a6
    injection hF with hF
    injection hF with h1 h2
    subst h1 h2
    exact k_formed a1 a2 a3 a4 a5 a6 w hs
  · cases hF
theorem b_off : Bodied Try.prog 142 := bodied Try.func142 rfl (by decide)
def r_off (a : Ar) (at_ : Int) : SV := .c (.v (.int .i64 (offA a at_)))
def F_off (κ : Kp) : List SV → Heap → Option (Prop × SV) := fun args _ => match args with
  | [.agg [.v (.int .i64 a1), .v (.int .i64 a2), .v (.int .i64 a3), .v (.bool a4), .v (.int .i64 a5), .v (.int .i64 a6)], .c (.v (.int .i64 at_))] => some (κ _ (True), .c (.v (.int .i64 (κ _ (offA (⟨a1, a2, a3, a4, a5, a6⟩ : Ar) at_)))))
  | _ => none
set_option maxRecDepth 100000 in
set_option maxHeartbeats 4000000 in
theorem k_off (a1 : Int) (a2 : Int) (a3 : Int) (a4 : Bool) (a5 : Int) (a6 : Int) (at_ : Int) (w : World) (hside : True) : Calls Try.prog 142 #[(SV.agg [.v (.int .i64 a1), .v (.int .i64 a2), .v (.int .i64 a3), .v (.bool a4), .v (.int .i64 a5), .v (.int .i64 a6)]).den, (SV.c (.v (.int .i64 at_))).den] w fun e w' => e = .returned (r_off (⟨a1, a2, a3, a4, a5, a6⟩ : Ar) at_).den ∧ Below w.heap.size w w' := by
  obtain ⟨κ, hκ⟩ : ∃ κ : Kp, κ = kid := ⟨_, rfl⟩
  refine pureE FTok [] mixed [] Try.func142 rfl (by kernel_rfl) _ [(0, .agg [.v (.int .i64 a1), .v (.int .i64 a2), .v (.int .i64 a3), .v (.bool a4), .v (.int .i64 a5), .v (.int .i64 a6)]), (1, .c (.v (.int .i64 at_)))] _ w 15 rfl [.tmp 4] rfl (by simp) (by simp [SV.den, C.den]) hκ ?_
  cbv
  repeat' (first | refine And.intro ?_ ?_ | (intro _; cbv) | (refine tst_mk (fun h => ?_) (fun h => ?_) <;> cbv))
  all_goals subst hκ
  all_goals (try delta kid at *)
  all_goals (try simp only [kid] at *)
  all_goals (refine ⟨?_⟩)
  all_goals (try (simp_all [r_off, SV.den, C.den, SV.den0, offA, w64]; done))
  all_goals (try simp_all [r_off, SV.den, C.den, SV.den0, offA, w64])
  all_goals (try (rw [Bool.eq_iff_iff]; simp only [Bool.and_eq_true, Bool.or_eq_true, decide_eq_true_eq, Bool.not_eq_true', decide_eq_false_iff_not, beq_iff_eq]; omega))
  all_goals (try omega)
def e_off {κ : Kp} (hκ : κ = kid) : ESpec Try.prog := pureES b_off F_off hκ fun args H s v w0 M w H' hF hs _ _ => by
  unfold F_off at hF
  split at hF
  · rename_i a1 a2 a3 a4 a5 a6 at_
    injection hF with hF
    injection hF with h1 h2
    subst h1 h2
    exact k_off a1 a2 a3 a4 a5 a6 at_ w hs
  · cases hF
end Go.Proofs.Ytbcicjmepojlnaa.Eng
/- Contracts of functions (printed by gen.py of this work): what each hands back; condition: as its 'hside' says. -/
namespace Go.Proofs.Ytbcicjmepojlnaa.Eng
open Go Go.RowKit
set_option linter.unusedVariables false
set_option linter.unusedSimpArgs false
theorem b_goes : Bodied Try.prog 109 := bodied Try.func109 rfl (by decide)
def r_goes (x : Ar) (y : Ar) : SV := .c (.v (.bool (goesA x y)))
def F_goes (κ : Kp) : List SV → Heap → Option (Prop × SV) := fun args _ => match args with
  | [.agg [.v (.int .i64 x1), .v (.int .i64 x2), .v (.int .i64 x3), .v (.bool x4), .v (.int .i64 x5), .v (.int .i64 x6)], .agg [.v (.int .i64 y1), .v (.int .i64 y2), .v (.int .i64 y3), .v (.bool y4), .v (.int .i64 y5), .v (.int .i64 y6)]] => some (κ _ (True), .c (.v (.bool (κ _ (goesA (⟨x1, x2, x3, x4, x5, x6⟩ : Ar) (⟨y1, y2, y3, y4, y5, y6⟩ : Ar))))))
  | _ => none
set_option maxRecDepth 100000 in
set_option maxHeartbeats 4000000 in
theorem k_goes (x1 : Int) (x2 : Int) (x3 : Int) (x4 : Bool) (x5 : Int) (x6 : Int) (y1 : Int) (y2 : Int) (y3 : Int) (y4 : Bool) (y5 : Int) (y6 : Int) (w : World) (hside : True) : Calls Try.prog 109 #[(SV.agg [.v (.int .i64 x1), .v (.int .i64 x2), .v (.int .i64 x3), .v (.bool x4), .v (.int .i64 x5), .v (.int .i64 x6)]).den, (SV.agg [.v (.int .i64 y1), .v (.int .i64 y2), .v (.int .i64 y3), .v (.bool y4), .v (.int .i64 y5), .v (.int .i64 y6)]).den] w fun e w' => e = .returned (r_goes (⟨x1, x2, x3, x4, x5, x6⟩ : Ar) (⟨y1, y2, y3, y4, y5, y6⟩ : Ar)).den ∧ Below w.heap.size w w' := by
  obtain ⟨κ, hκ⟩ : ∃ κ : Kp, κ = kid := ⟨_, rfl⟩
  refine pureE FTok [e_formed hκ, e_off hκ] mixed [(1, [[], [], [], [], [], [], [], [], [], [7, 8], [7, 8], [], [], [], [], [], [14, 15], [14, 15], [], [], [], [], [], [21, 22], [21, 22], [], [], [], [], [], [28, 29], [28, 29], [], [], [], [], [], [35, 36], [35, 36, 37], [35, 36, 37], [35, 36], [], [], []])] Try.func109 rfl (by kernel_rfl) _ [(0, .agg [.v (.int .i64 x1), .v (.int .i64 x2), .v (.int .i64 x3), .v (.bool x4), .v (.int .i64 x5), .v (.int .i64 x6)]), (1, .agg [.v (.int .i64 y1), .v (.int .i64 y2), .v (.int .i64 y3), .v (.bool y4), .v (.int .i64 y5), .v (.int .i64 y6)])] _ w 48 rfl [.tmp 4] rfl (by simp) (by simp [SV.den, C.den]) hκ ?_
  cbv
  repeat' (first | refine And.intro ?_ ?_ | (intro _; cbv) | (refine tst_mk (fun h => ?_) (fun h => ?_) <;> cbv))
  all_goals subst hκ
  all_goals (try delta kid at *)
  all_goals (try simp only [kid] at *)
  all_goals (refine ⟨?_⟩)
  all_goals (try (simp_all [r_goes, SV.den, C.den, SV.den0, goesA]; done))
  all_goals (try simp_all [r_goes, SV.den, C.den, SV.den0, goesA])
  all_goals (try (rw [Bool.eq_iff_iff]; simp only [Bool.and_eq_true, Bool.or_eq_true, decide_eq_true_eq, Bool.not_eq_true', decide_eq_false_iff_not, beq_iff_eq]; omega))
  all_goals (try omega)
def e_goes {κ : Kp} (hκ : κ = kid) : ESpec Try.prog := pureES b_goes F_goes hκ fun args H s v w0 M w H' hF hs _ _ => by
  unfold F_goes at hF
  split at hF
  · rename_i x1 x2 x3 x4 x5 x6 y1 y2 y3 y4 y5 y6
    injection hF with hF
    injection hF with h1 h2
    subst h1 h2
    exact k_goes x1 x2 x3 x4 x5 x6 y1 y2 y3 y4 y5 y6 w hs
  · cases hF
end Go.Proofs.Ytbcicjmepojlnaa.Eng
/- Contracts of functions (printed by gen.py of this work): what each hands back; condition: as its 'hside' says. -/
namespace Go.Proofs.Ytbcicjmepojlnaa.Eng
open Go Go.RowKit
set_option linter.unusedVariables false
set_option linter.unusedSimpArgs false
end Go.Proofs.Ytbcicjmepojlnaa.Eng
/- Contracts of functions of lists (printed by genl.py of this work): what each hands back; condition: as its 'hside' says. -/
namespace Go.Proofs.Ytbcicjmepojlnaa.Eng
open Go Go.RowKit
set_option linter.unusedVariables false
set_option linter.unusedSimpArgs false
theorem b_right : Bodied Try.prog 64 := bodied Try.func64 rfl (by decide)
def r_right (l : List Ar) : SV := .c (.v (.bool (rightL l)))
def F_right : FunL := fun κ l rest => match rest with
  | [] => some (κ _ (l.length ≤ 1000000), .c (.v (.bool (κ _ (rightL l)))))
  | _ => none
set_option maxRecDepth 100000 in
set_option maxHeartbeats 4000000 in
theorem k_right (l : List Ar) (hside : l.length ≤ 1000000) (A : Option Addr) (c : Nat) (w : World) (hr : (Ent.rd A 6 l.length (encL l)).holds w) :
    Calls Try.prog 64 #[.slice A l.length c] w fun e w' => e = .returned (r_right l).den ∧ Below w.heap.size w w' := by
  obtain ⟨κ, hκ⟩ : ∃ κ : Kp, κ = kid := ⟨_, rfl⟩
  have hH : HSat w (fun _ => False) (heapOf [(nilId, .rd none 1 0 []), (200000, .rd A 6 (κ _ l.length) (κ _ (encL l)))]) w := by
    subst hκ
    refine HSat.reads fun p hp => ?_
    simp only [List.mem_cons, List.not_mem_nil, or_false] at hp
    rcases hp with rfl | rfl
    · exact ⟨_, _, _, _, rfl, nil_holds w⟩
    · exact ⟨_, _, _, _, rfl, hr⟩
  refine (callsE (n := 40) FTok [e_formed hκ, e_goes hκ] mixed [(4, [[], [], [], [], [], [], [], [], [7], [7], [], [], [], [7, 8, 9, 10, 11, 12], [7, 8, 9, 10, 11, 12], [], [], [], [17], [17], [], [], [17, 18, 19, 20, 21], [], [], [], []])] Try.func64 rfl (by kernel_rfl) #[.slice A l.length c] [(0, .c (.sl 200000 A (κ _ l.length) c))] _ w rfl [.tmp 2] rfl (by simp) (by subst hκ; simp [SV.den, C.den, kid]) hH (fun v _ => Is (κ _ (r_right l).den) v) hκ ?_).mono ?_
  rotate_left
  · subst hκ
    rintro e w' ⟨v, H', rfl, ⟨hv⟩, hH'⟩
    exact ⟨by rw [hv]; rfl, hH'.isBelow⟩
  cbv
  repeat' (first | refine And.intro ?_ ?_ | (intro _; cbv) | (refine tst_mk (fun h => ?_) (fun h => ?_) <;> cbv))
  refine loopG FTok [e_formed hκ, e_goes hκ] mixed [0, 5, 6] (σ := {i : Nat // i ≤ l.length ∧ ∀ j : Nat, j < i → badAt l j = false}) (fun q => [(7, .c (.v (.int .i64 (κ _ ((q.1 : Nat) : Int)))))]) (fun _ => [(200000, .rd A 6 (κ _ l.length) (κ _ (encL l)))]) (fun q => l.length - q.1) ⟨0, ⟨Nat.zero_le _, fun j hj => absurd hj (Nat.not_lt_zero j)⟩⟩ [200000] ?_ (by decide) ?_ hκ ?_
  · cbv
    subst hκ
    delta kid
    exact ⟨rfl, trivial⟩
  · cbv
  rintro ⟨i, hi1, hi2⟩
  cbv
  refine tst_mk (fun h => ?_) (fun h => ?_)
  · have hi : i < l.length := by subst hκ; delta kid at h; have h2 : (i : Int) < (l.length : Int) := of_decide_eq_true h; omega
    cbv
    repeat' (first | refine And.intro ?_ ?_ | (intro _; cbv) | (refine tst_mk (fun h => ?_) (fun h => ?_) <;> cbv) | (refine LookN.mk' (x := [.v (.int .i64 (κ _ (nthA l i).s)), .v (.int .i64 (κ _ (nthA l i).e)), .v (.int .i64 (κ _ (nthA l i).p)), .v (.bool (κ _ (nthA l i).sh)), .v (.int .i64 (κ _ (nthA l i).b)), .v (.int .i64 (κ _ (nthA l i).o))]) (by subst hκ; delta kid at *; exact la_take hi) ?_; cbv) | (refine LookN.mk' (x := [.v (.int .i64 (κ _ (nthA l (i - 1)).s)), .v (.int .i64 (κ _ (nthA l (i - 1)).e)), .v (.int .i64 (κ _ (nthA l (i - 1)).p)), .v (.bool (κ _ (nthA l (i - 1)).sh)), .v (.int .i64 (κ _ (nthA l (i - 1)).b)), .v (.int .i64 (κ _ (nthA l (i - 1)).o))]) (by subst hκ; delta kid at *; exact lp_take hi hside (pos_of (by assumption))) ?_; cbv) | (refine LookR.mk' (x := .v (.int .i64 (κ _ (nthA l (i - 1)).e))) (by subst hκ; delta kid at *; exact lp_e hi hside (pos_of (by assumption))) ?_; cbv))
    all_goals (clear hH; subst hκ; delta kid at *; dsimp only at *)
    all_goals (try (exact ⟨la_ix hi⟩))
    all_goals (try (exact ⟨trivial⟩))
    all_goals (try (exact ⟨rfl⟩))
    all_goals (try (exact ⟨lp_ix hi hside (pos_of (by assumption))⟩))
    all_goals (try simp only [nthA_eta] at *)
    all_goals (try (refine ⟨?_⟩; show Value.bool false = Value.bool (rightL l); rw [right_no hi (by first | exact bad_a (by assumption) | exact bad_b (by assumption) (by assumption) | exact bad_c (by assumption) (by assumption))]; done))
    all_goals (exact ⟨⟨⟨i + 1, ⟨hi, bad_next hi2 (by first | exact good_e (by assumption) (by assumption) | exact good_d (by assumption) (by assumption) (by assumption))⟩⟩, [200000], (by show l.length - (i + 1) < l.length - i; omega), by decide, ⟨rfl, rfl, rfl, rfl, rfl, rfl, rfl, congrArg (Value.int .i64) (nat_succ (by omega)), trivial⟩, ⟨rfl, rfl, rfl, rfl⟩, trivial⟩⟩)
  cbv
  all_goals subst hκ
  all_goals (try delta kid at *)
  all_goals (try dsimp only at *)
  all_goals (try (exact ⟨trivial⟩))
  all_goals (try (exact ⟨by decide⟩))
  all_goals (try (exact ⟨rfl⟩))
  all_goals (try (exact ⟨⟨rfl, rfl, .inl rfl⟩⟩))
  all_goals (try (exact ⟨‹_›⟩))
  all_goals (refine ⟨?_⟩)
  all_goals (show Value.bool true = Value.bool (rightL l))
  all_goals (rw [right_yes (fun j hj => hi2 j (by have h2 : ¬ (i : Int) < (l.length : Int) := of_decide_eq_false h; omega))])
def e_right {κ : Kp} (hκ : κ = kid) : ESpec Try.prog := lisES b_right F_right hκ fun l rest p v hF hp A c w hr => by
  unfold F_right at hF
  split at hF
  · skip
    simp only [kid, Option.some.injEq, Prod.mk.injEq] at hF
    obtain ⟨rfl, rfl⟩ := hF
    exact k_right l hp A c w hr
  · cases hF
end Go.Proofs.Ytbcicjmepojlnaa.Eng
/- The first area that has an address: list.Find with its closure; condition: lists of a million areas at most. -/
namespace Go.Proofs.Ytbcicjmepojlnaa.Eng
open Go Go.RowKit
set_option linter.unusedVariables false
set_option linter.unusedSimpArgs false
structure IsB (r : Value) (e1 : Option Ent) (v : SV) (o1 : Option Ent) : Prop where
  h : v.den = r ∧ o1 = e1
/-! ### The closure -/
/-! ### IndexFunc with it -/
end Go.Proofs.Ytbcicjmepojlnaa.Eng
/- Contracts of functions of lists (printed by genl.py of this work): what each hands back; condition: as its 'hside' says. -/
namespace Go.Proofs.Ytbcicjmepojlnaa.Eng
open Go Go.RowKit
set_option linter.unusedVariables false
set_option linter.unusedSimpArgs false
end Go.Proofs.Ytbcicjmepojlnaa.Eng
