/- Closed facts on the types of the program; no condition. -/
import Derived.Test.YtjlgeoaomegbmaaProg
import Derived.Test.YtjlgeoaomegbmaaEng14
import Derived.KernelRfl
namespace Go.Proofs.Ytjlgeoaomegbmaa.Eng
open Go Go.RowKit
set_option maxRecDepth 100000
set_option linter.unusedSimpArgs false
theorem mixed : Try.prog.follows .mixedOrders = true := by kernel_rfl
theorem sz2 : szT Try.prog 2 = some (false, 1) := by kernel_rfl
theorem ze2 : zeroT Try.prog 2 = some [.v (.int .i64 0)] := by kernel_rfl
theorem in2 : intT Try.prog 2 = some .i64 := by kernel_rfl
theorem sz3 : szT Try.prog 3 = some (false, 1) := by kernel_rfl
theorem ze3 : zeroT Try.prog 3 = some [.v (.int .i64 0)] := by kernel_rfl
theorem in3 : intT Try.prog 3 = some .i64 := by kernel_rfl
theorem sz4 : szT Try.prog 4 = some (false, 1) := by kernel_rfl
theorem ze4 : zeroT Try.prog 4 = some [.v (.bool false)] := by kernel_rfl
theorem un4 : Try.prog.underlying 4 = some .bool := by kernel_rfl
theorem sz5 : szT Try.prog 5 = some (false, 1) := by kernel_rfl
theorem ze5 : zeroT Try.prog 5 = some [.v (.int .u8 0)] := by kernel_rfl
theorem in5 : intT Try.prog 5 = some .u8 := by kernel_rfl
theorem sz22 : szT Try.prog 22 = some (false, 1) := by kernel_rfl
theorem ze22 : zeroT Try.prog 22 = some [.v (.int .i64 0)] := by kernel_rfl
theorem in22 : intT Try.prog 22 = some .i64 := by kernel_rfl
theorem sz28 : szT Try.prog 28 = some (true, 6) := by kernel_rfl
theorem ze28 : zeroT Try.prog 28 = some [.v (.int .i64 0), .v (.int .i64 0), .v (.int .i64 0), .v (.bool false), .v (.int .i64 0), .v (.int .i64 0)] := by kernel_rfl
theorem fi28_0 : fieldT Try.prog 28 0 = some 0 := by kernel_rfl
theorem fi28_1 : fieldT Try.prog 28 1 = some 1 := by kernel_rfl
theorem fi28_2 : fieldT Try.prog 28 2 = some 2 := by kernel_rfl
theorem fi28_3 : fieldT Try.prog 28 3 = some 3 := by kernel_rfl
theorem fi28_4 : fieldT Try.prog 28 4 = some 4 := by kernel_rfl
theorem fi28_5 : fieldT Try.prog 28 5 = some 5 := by kernel_rfl
theorem pl28 : placesT Try.prog 28 = some [(0, 1), (1, 1), (2, 1), (3, 1), (4, 1), (5, 1)] := by kernel_rfl
theorem sz39 : szT Try.prog 39 = some (true, 4) := by kernel_rfl
theorem ze39 : zeroT Try.prog 39 = some [.v (.int .i64 0), .v (.bool false), .v (.int .i64 0), .v (.int .i64 0)] := by kernel_rfl
theorem fi39_0 : fieldT Try.prog 39 0 = some 0 := by kernel_rfl
theorem fi39_1 : fieldT Try.prog 39 1 = some 1 := by kernel_rfl
theorem fi39_2 : fieldT Try.prog 39 2 = some 2 := by kernel_rfl
theorem fi39_3 : fieldT Try.prog 39 3 = some 3 := by kernel_rfl
theorem pl39 : placesT Try.prog 39 = some [(0, 1), (1, 1), (2, 1), (3, 1)] := by kernel_rfl
theorem sz48 : szT Try.prog 48 = some (true, 2) := by kernel_rfl
theorem ze48 : zeroT Try.prog 48 = some [.v (.int .i64 0), .v (.int .i64 0)] := by kernel_rfl
theorem ar48 : arrT Try.prog 48 = some (2, 1) := by kernel_rfl
theorem sz49 : szT Try.prog 49 = some (true, 2) := by kernel_rfl
theorem ze49 : zeroT Try.prog 49 = some [.v (.int .i64 0), .v (.int .i64 0)] := by kernel_rfl
theorem ar49 : arrT Try.prog 49 = some (2, 1) := by kernel_rfl
theorem sz50 : szT Try.prog 50 = some (false, 1) := by kernel_rfl
theorem ze50 : zeroT Try.prog 50 = some [.v (.pointer none)] := by kernel_rfl
theorem un50 : Try.prog.underlying 50 = some (.pointer 80) := by kernel_rfl
theorem sz52 : szT Try.prog 52 = some (false, 1) := by kernel_rfl
theorem ze52 : zeroT Try.prog 52 = some [.v (.pointer none)] := by kernel_rfl
theorem un52 : Try.prog.underlying 52 = some (.pointer 58) := by kernel_rfl
theorem sz55 : szT Try.prog 55 = some (false, 1) := by kernel_rfl
theorem ze55 : zeroT Try.prog 55 = some [.sl nilId none 0 0] := by kernel_rfl
theorem sl55 : slT Try.prog 55 = some (2, 1, 8, 1) := by kernel_rfl
theorem un55 : Try.prog.underlying 55 = some (.slice 2) := by kernel_rfl
theorem sz56 : szT Try.prog 56 = some (false, 1) := by kernel_rfl
theorem ze56 : zeroT Try.prog 56 = some [.sl nilId none 0 0] := by kernel_rfl
theorem sl56 : slT Try.prog 56 = some (4, 1, 1, 1) := by kernel_rfl
theorem un56 : Try.prog.underlying 56 = some (.slice 4) := by kernel_rfl
theorem sz58 : szT Try.prog 58 = some (true, 5) := by kernel_rfl
theorem ze58 : zeroT Try.prog 58 = some [.v (.int .i64 0), .sl nilId none 0 0, .sl nilId none 0 0, .v (.bool false), .v (.bool false)] := by kernel_rfl
theorem fi58_0 : fieldT Try.prog 58 0 = some 0 := by kernel_rfl
theorem fi58_1 : fieldT Try.prog 58 1 = some 1 := by kernel_rfl
theorem fi58_2 : fieldT Try.prog 58 2 = some 2 := by kernel_rfl
theorem fi58_3 : fieldT Try.prog 58 3 = some 3 := by kernel_rfl
theorem fi58_4 : fieldT Try.prog 58 4 = some 4 := by kernel_rfl
theorem pl58 : placesT Try.prog 58 = some [(0, 1), (1, 1), (2, 1), (3, 1), (4, 1)] := by kernel_rfl
theorem sz63 : szT Try.prog 63 = some (false, 1) := by kernel_rfl
theorem ze63 : zeroT Try.prog 63 = some [.v (.int .u16 0)] := by kernel_rfl
theorem in63 : intT Try.prog 63 = some .u16 := by kernel_rfl
theorem sz64 : szT Try.prog 64 = some (true, 4) := by kernel_rfl
theorem ze64 : zeroT Try.prog 64 = some [.v (.int .u16 0), .v (.int .u16 0), .v (.int .u16 0), .v (.int .u16 0)] := by kernel_rfl
theorem ar64 : arrT Try.prog 64 = some (4, 1) := by kernel_rfl
theorem sz71 : szT Try.prog 71 = some (false, 1) := by kernel_rfl
theorem ze71 : zeroT Try.prog 71 = some [.sl nilId none 0 0] := by kernel_rfl
theorem sl71 : slT Try.prog 71 = some (73, 4, 32, 4) := by kernel_rfl
theorem un71 : Try.prog.underlying 71 = some (.slice 73) := by kernel_rfl
theorem sz73 : szT Try.prog 73 = some (true, 4) := by kernel_rfl
theorem ze73 : zeroT Try.prog 73 = some [.v (.int .u8 0), .v (.int .i64 0), .v (.int .i64 0), .v (.int .u8 0)] := by kernel_rfl
theorem fi73_0 : fieldT Try.prog 73 0 = some 0 := by kernel_rfl
theorem fi73_1 : fieldT Try.prog 73 1 = some 1 := by kernel_rfl
theorem fi73_2 : fieldT Try.prog 73 2 = some 2 := by kernel_rfl
theorem fi73_3 : fieldT Try.prog 73 3 = some 3 := by kernel_rfl
theorem pl73 : placesT Try.prog 73 = some [(0, 1), (1, 1), (2, 1), (3, 1)] := by kernel_rfl
theorem sz78 : szT Try.prog 78 = some (false, 1) := by kernel_rfl
theorem ze78 : zeroT Try.prog 78 = some [.sl nilId none 0 0] := by kernel_rfl
theorem sl78 : slT Try.prog 78 = some (84, 2, 16, 2) := by kernel_rfl
theorem un78 : Try.prog.underlying 78 = some (.slice 84) := by kernel_rfl
theorem sz80 : szT Try.prog 80 = some (true, 4) := by kernel_rfl
theorem ze80 : zeroT Try.prog 80 = some [.v (.int .i64 0), .sl nilId none 0 0, .v (.bool false), .v (.bool false)] := by kernel_rfl
theorem fi80_0 : fieldT Try.prog 80 0 = some 0 := by kernel_rfl
theorem fi80_1 : fieldT Try.prog 80 1 = some 1 := by kernel_rfl
theorem fi80_2 : fieldT Try.prog 80 2 = some 2 := by kernel_rfl
theorem fi80_3 : fieldT Try.prog 80 3 = some 3 := by kernel_rfl
theorem pl80 : placesT Try.prog 80 = some [(0, 1), (1, 1), (2, 1), (3, 1)] := by kernel_rfl
theorem sz84 : szT Try.prog 84 = some (true, 2) := by kernel_rfl
theorem ze84 : zeroT Try.prog 84 = some [.v (.int .i64 0), .v (.bool false)] := by kernel_rfl
theorem fi84_0 : fieldT Try.prog 84 0 = some 0 := by kernel_rfl
theorem fi84_1 : fieldT Try.prog 84 1 = some 1 := by kernel_rfl
theorem pl84 : placesT Try.prog 84 = some [(0, 1), (1, 1)] := by kernel_rfl
theorem eqD28 (d : Nat) (x0 y0 : Int) (x1 y1 : Int) (x2 y2 : Int) (x3 y3 : Bool) (x4 y4 : Int) (x5 y5 : Int) (w : World) : (Op.equalIn (d + 2) 28 (.agg #[.int .i64 x0, .int .i64 x1, .int .i64 x2, .bool x3, .int .i64 x4, .int .i64 x5]) (.agg #[.int .i64 y0, .int .i64 y1, .int .i64 y2, .bool y3, .int .i64 y4, .int .i64 y5])).run Try.prog w = .ok ((x0 == y0) && ((x1 == y1) && ((x2 == y2) && ((x3 == y3) && ((x4 == y4) && ((x5 == y5) && true)))))) w := by
  refine sEq_of Try.underlying28 (by kernel_rfl) ?_
  refine sEq_cons (by decide) (sPart_one sz2 rfl) (sPart_one sz2 rfl) (sEq_int in2) ?_
  refine sEq_cons (by decide) (sPart_one sz2 rfl) (sPart_one sz2 rfl) (sEq_int in2) ?_
  refine sEq_cons (by decide) (sPart_one sz3 rfl) (sPart_one sz3 rfl) (sEq_int in3) ?_
  refine sEq_cons (by decide) (sPart_one sz4 rfl) (sPart_one sz4 rfl) (sEq_bool un4) ?_
  refine sEq_cons (by decide) (sPart_one sz3 rfl) (sPart_one sz3 rfl) (sEq_int in3) ?_
  refine sEq_cons (by decide) (sPart_one sz2 rfl) (sPart_one sz2 rfl) (sEq_int in2) ?_
  exact sEq_nil
theorem eqT28 (xs ys : List C) (r : Bool) (h0 : eqCells [.int .i64, .int .i64, .int .i64, .bool, .int .i64, .int .i64] xs ys = some r) : EqFact Try.prog 28 xs ys r := by
  obtain ⟨x0, y0, xs1, ys1, r1, rfl, rfl, h1, rfl⟩ := eqCells_int h0
  obtain ⟨x1, y1, xs2, ys2, r2, rfl, rfl, h2, rfl⟩ := eqCells_int h1
  obtain ⟨x2, y2, xs3, ys3, r3, rfl, rfl, h3, rfl⟩ := eqCells_int h2
  obtain ⟨x3, y3, xs4, ys4, r4, rfl, rfl, h4, rfl⟩ := eqCells_bool h3
  obtain ⟨x4, y4, xs5, ys5, r5, rfl, rfl, h5, rfl⟩ := eqCells_int h4
  obtain ⟨x5, y5, xs6, ys6, r6, rfl, rfl, h6, rfl⟩ := eqCells_int h5
  obtain ⟨rfl, rfl, rfl⟩ := eqCells_nil h6
  refine ⟨by kernel_rfl, fun w => ?_⟩
  exact eqD28 9998 x0 y0 x1 y1 x2 y2 x3 y3 x4 y4 x5 y5 w
theorem eqD39 (d : Nat) (x0 y0 : Int) (x1 y1 : Bool) (x2 y2 : Int) (x3 y3 : Int) (w : World) : (Op.equalIn (d + 2) 39 (.agg #[.int .i64 x0, .bool x1, .int .i64 x2, .int .i64 x3]) (.agg #[.int .i64 y0, .bool y1, .int .i64 y2, .int .i64 y3])).run Try.prog w = .ok ((x0 == y0) && ((x1 == y1) && ((x2 == y2) && ((x3 == y3) && true)))) w := by
  refine sEq_of Try.underlying39 (by kernel_rfl) ?_
  refine sEq_cons (by decide) (sPart_one sz3 rfl) (sPart_one sz3 rfl) (sEq_int in3) ?_
  refine sEq_cons (by decide) (sPart_one sz4 rfl) (sPart_one sz4 rfl) (sEq_bool un4) ?_
  refine sEq_cons (by decide) (sPart_one sz3 rfl) (sPart_one sz3 rfl) (sEq_int in3) ?_
  refine sEq_cons (by decide) (sPart_one sz2 rfl) (sPart_one sz2 rfl) (sEq_int in2) ?_
  exact sEq_nil
theorem eqT39 (xs ys : List C) (r : Bool) (h0 : eqCells [.int .i64, .bool, .int .i64, .int .i64] xs ys = some r) : EqFact Try.prog 39 xs ys r := by
  obtain ⟨x0, y0, xs1, ys1, r1, rfl, rfl, h1, rfl⟩ := eqCells_int h0
  obtain ⟨x1, y1, xs2, ys2, r2, rfl, rfl, h2, rfl⟩ := eqCells_bool h1
  obtain ⟨x2, y2, xs3, ys3, r3, rfl, rfl, h3, rfl⟩ := eqCells_int h2
  obtain ⟨x3, y3, xs4, ys4, r4, rfl, rfl, h4, rfl⟩ := eqCells_int h3
  obtain ⟨rfl, rfl, rfl⟩ := eqCells_nil h4
  refine ⟨by kernel_rfl, fun w => ?_⟩
  exact eqD39 9998 x0 y0 x1 y1 x2 y2 x3 y3 w
theorem eqD73 (d : Nat) (x0 y0 : Int) (x1 y1 : Int) (x2 y2 : Int) (x3 y3 : Int) (w : World) : (Op.equalIn (d + 2) 73 (.agg #[.int .u8 x0, .int .i64 x1, .int .i64 x2, .int .u8 x3]) (.agg #[.int .u8 y0, .int .i64 y1, .int .i64 y2, .int .u8 y3])).run Try.prog w = .ok ((x0 == y0) && ((x1 == y1) && ((x2 == y2) && ((x3 == y3) && true)))) w := by
  refine sEq_of Try.underlying73 (by kernel_rfl) ?_
  refine sEq_cons (by decide) (sPart_one sz5 rfl) (sPart_one sz5 rfl) (sEq_int in5) ?_
  refine sEq_cons (by decide) (sPart_one sz3 rfl) (sPart_one sz3 rfl) (sEq_int in3) ?_
  refine sEq_cons (by decide) (sPart_one sz2 rfl) (sPart_one sz2 rfl) (sEq_int in2) ?_
  refine sEq_cons (by decide) (sPart_one sz5 rfl) (sPart_one sz5 rfl) (sEq_int in5) ?_
  exact sEq_nil
theorem eqT73 (xs ys : List C) (r : Bool) (h0 : eqCells [.int .u8, .int .i64, .int .i64, .int .u8] xs ys = some r) : EqFact Try.prog 73 xs ys r := by
  obtain ⟨x0, y0, xs1, ys1, r1, rfl, rfl, h1, rfl⟩ := eqCells_int h0
  obtain ⟨x1, y1, xs2, ys2, r2, rfl, rfl, h2, rfl⟩ := eqCells_int h1
  obtain ⟨x2, y2, xs3, ys3, r3, rfl, rfl, h3, rfl⟩ := eqCells_int h2
  obtain ⟨x3, y3, xs4, ys4, r4, rfl, rfl, h4, rfl⟩ := eqCells_int h3
  obtain ⟨rfl, rfl, rfl⟩ := eqCells_nil h4
  refine ⟨by kernel_rfl, fun w => ?_⟩
  exact eqD73 9998 x0 y0 x1 y1 x2 y2 x3 y3 w
theorem eqD84 (d : Nat) (x0 y0 : Int) (x1 y1 : Bool) (w : World) : (Op.equalIn (d + 2) 84 (.agg #[.int .i64 x0, .bool x1]) (.agg #[.int .i64 y0, .bool y1])).run Try.prog w = .ok ((x0 == y0) && ((x1 == y1) && true)) w := by
  refine sEq_of Try.underlying84 (by kernel_rfl) ?_
  refine sEq_cons (by decide) (sPart_one sz2 rfl) (sPart_one sz2 rfl) (sEq_int in2) ?_
  refine sEq_cons (by decide) (sPart_one sz4 rfl) (sPart_one sz4 rfl) (sEq_bool un4) ?_
  exact sEq_nil
theorem eqT84 (xs ys : List C) (r : Bool) (h0 : eqCells [.int .i64, .bool] xs ys = some r) : EqFact Try.prog 84 xs ys r := by
  obtain ⟨x0, y0, xs1, ys1, r1, rfl, rfl, h1, rfl⟩ := eqCells_int h0
  obtain ⟨x1, y1, xs2, ys2, r2, rfl, rfl, h2, rfl⟩ := eqCells_bool h1
  obtain ⟨rfl, rfl, rfl⟩ := eqCells_nil h2
  refine ⟨by kernel_rfl, fun w => ?_⟩
  exact eqD84 9998 x0 y0 x1 y1 w
theorem fl28 (k o : Nat) (h : [0, 1, 2, 3, 4, 5][k]? = some o) : fieldT Try.prog 28 k = some o := by
  match k, h with
  | 0, h => injection h with h; subst h; exact fi28_0
  | 1, h => injection h with h; subst h; exact fi28_1
  | 2, h => injection h with h; subst h; exact fi28_2
  | 3, h => injection h with h; subst h; exact fi28_3
  | 4, h => injection h with h; subst h; exact fi28_4
  | 5, h => injection h with h; subst h; exact fi28_5
  | k + 6, h => simp at h
theorem fl39 (k o : Nat) (h : [0, 1, 2, 3][k]? = some o) : fieldT Try.prog 39 k = some o := by
  match k, h with
  | 0, h => injection h with h; subst h; exact fi39_0
  | 1, h => injection h with h; subst h; exact fi39_1
  | 2, h => injection h with h; subst h; exact fi39_2
  | 3, h => injection h with h; subst h; exact fi39_3
  | k + 4, h => simp at h
theorem fl58 (k o : Nat) (h : [0, 1, 2, 3, 4][k]? = some o) : fieldT Try.prog 58 k = some o := by
  match k, h with
  | 0, h => injection h with h; subst h; exact fi58_0
  | 1, h => injection h with h; subst h; exact fi58_1
  | 2, h => injection h with h; subst h; exact fi58_2
  | 3, h => injection h with h; subst h; exact fi58_3
  | 4, h => injection h with h; subst h; exact fi58_4
  | k + 5, h => simp at h
theorem fl73 (k o : Nat) (h : [0, 1, 2, 3][k]? = some o) : fieldT Try.prog 73 k = some o := by
  match k, h with
  | 0, h => injection h with h; subst h; exact fi73_0
  | 1, h => injection h with h; subst h; exact fi73_1
  | 2, h => injection h with h; subst h; exact fi73_2
  | 3, h => injection h with h; subst h; exact fi73_3
  | k + 4, h => simp at h
theorem fl80 (k o : Nat) (h : [0, 1, 2, 3][k]? = some o) : fieldT Try.prog 80 k = some o := by
  match k, h with
  | 0, h => injection h with h; subst h; exact fi80_0
  | 1, h => injection h with h; subst h; exact fi80_1
  | 2, h => injection h with h; subst h; exact fi80_2
  | 3, h => injection h with h; subst h; exact fi80_3
  | k + 4, h => simp at h
theorem fl84 (k o : Nat) (h : [0, 1][k]? = some o) : fieldT Try.prog 84 k = some o := by
  match k, h with
  | 0, h => injection h with h; subst h; exact fi84_0
  | 1, h => injection h with h; subst h; exact fi84_1
  | k + 2, h => simp at h
def FT : TT where
  sz := [(2, (false, 1)), (3, (false, 1)), (4, (false, 1)), (5, (false, 1)), (22, (false, 1)), (28, (true, 6)), (39, (true, 4)), (48, (true, 2)), (49, (true, 2)), (50, (false, 1)), (52, (false, 1)), (55, (false, 1)), (56, (false, 1)), (58, (true, 5)), (63, (false, 1)), (64, (true, 4)), (71, (false, 1)), (73, (true, 4)), (78, (false, 1)), (80, (true, 4)), (84, (true, 2))]
  ze := [(2, [.v (.int .i64 0)]), (3, [.v (.int .i64 0)]), (4, [.v (.bool false)]), (5, [.v (.int .u8 0)]), (22, [.v (.int .i64 0)]), (28, [.v (.int .i64 0), .v (.int .i64 0), .v (.int .i64 0), .v (.bool false), .v (.int .i64 0), .v (.int .i64 0)]), (39, [.v (.int .i64 0), .v (.bool false), .v (.int .i64 0), .v (.int .i64 0)]), (48, [.v (.int .i64 0), .v (.int .i64 0)]), (49, [.v (.int .i64 0), .v (.int .i64 0)]), (50, [.v (.pointer none)]), (52, [.v (.pointer none)]), (55, [.sl nilId none 0 0]), (56, [.sl nilId none 0 0]), (58, [.v (.int .i64 0), .sl nilId none 0 0, .sl nilId none 0 0, .v (.bool false), .v (.bool false)]), (63, [.v (.int .u16 0)]), (64, [.v (.int .u16 0), .v (.int .u16 0), .v (.int .u16 0), .v (.int .u16 0)]), (71, [.sl nilId none 0 0]), (73, [.v (.int .u8 0), .v (.int .i64 0), .v (.int .i64 0), .v (.int .u8 0)]), (78, [.sl nilId none 0 0]), (80, [.v (.int .i64 0), .sl nilId none 0 0, .v (.bool false), .v (.bool false)]), (84, [.v (.int .i64 0), .v (.bool false)])]
  fi := [(28, [0, 1, 2, 3, 4, 5]), (39, [0, 1, 2, 3]), (58, [0, 1, 2, 3, 4]), (73, [0, 1, 2, 3]), (80, [0, 1, 2, 3]), (84, [0, 1])]
  pl := [(28, [(0, 1), (1, 1), (2, 1), (3, 1), (4, 1), (5, 1)]), (39, [(0, 1), (1, 1), (2, 1), (3, 1)]), (58, [(0, 1), (1, 1), (2, 1), (3, 1), (4, 1)]), (73, [(0, 1), (1, 1), (2, 1), (3, 1)]), (80, [(0, 1), (1, 1), (2, 1), (3, 1)]), (84, [(0, 1), (1, 1)])]
  ar := [(48, (2, 1)), (49, (2, 1)), (64, (4, 1))]
  sl := [(55, (2, 1, 8, 1)), (56, (4, 1, 1, 1)), (71, (73, 4, 32, 4)), (78, (84, 2, 16, 2))]
  int := [(2, .i64), (3, .i64), (5, .u8), (22, .i64), (63, .u16)]
  bool := [(4, ())]
  eq := [(28, [.int .i64, .int .i64, .int .i64, .bool, .int .i64, .int .i64]), (39, [.int .i64, .bool, .int .i64, .int .i64]), (73, [.int .u8, .int .i64, .int .i64, .int .u8]), (84, [.int .i64, .bool])]
  ptr := [(50, ()), (52, ())]
  refs := [58, 80]
theorem FTok : TTok Try.prog FT where
  sz := List.forall_mem_cons.2 ⟨sz2, List.forall_mem_cons.2 ⟨sz3, List.forall_mem_cons.2 ⟨sz4, List.forall_mem_cons.2 ⟨sz5, List.forall_mem_cons.2 ⟨sz22, List.forall_mem_cons.2 ⟨sz28, List.forall_mem_cons.2 ⟨sz39, List.forall_mem_cons.2 ⟨sz48, List.forall_mem_cons.2 ⟨sz49, List.forall_mem_cons.2 ⟨sz50, List.forall_mem_cons.2 ⟨sz52, List.forall_mem_cons.2 ⟨sz55, List.forall_mem_cons.2 ⟨sz56, List.forall_mem_cons.2 ⟨sz58, List.forall_mem_cons.2 ⟨sz63, List.forall_mem_cons.2 ⟨sz64, List.forall_mem_cons.2 ⟨sz71, List.forall_mem_cons.2 ⟨sz73, List.forall_mem_cons.2 ⟨sz78, List.forall_mem_cons.2 ⟨sz80, List.forall_mem_cons.2 ⟨sz84, List.forall_mem_nil _⟩⟩⟩⟩⟩⟩⟩⟩⟩⟩⟩⟩⟩⟩⟩⟩⟩⟩⟩⟩⟩
  ze := List.forall_mem_cons.2 ⟨ze2, List.forall_mem_cons.2 ⟨ze3, List.forall_mem_cons.2 ⟨ze4, List.forall_mem_cons.2 ⟨ze5, List.forall_mem_cons.2 ⟨ze22, List.forall_mem_cons.2 ⟨ze28, List.forall_mem_cons.2 ⟨ze39, List.forall_mem_cons.2 ⟨ze48, List.forall_mem_cons.2 ⟨ze49, List.forall_mem_cons.2 ⟨ze50, List.forall_mem_cons.2 ⟨ze52, List.forall_mem_cons.2 ⟨ze55, List.forall_mem_cons.2 ⟨ze56, List.forall_mem_cons.2 ⟨ze58, List.forall_mem_cons.2 ⟨ze63, List.forall_mem_cons.2 ⟨ze64, List.forall_mem_cons.2 ⟨ze71, List.forall_mem_cons.2 ⟨ze73, List.forall_mem_cons.2 ⟨ze78, List.forall_mem_cons.2 ⟨ze80, List.forall_mem_cons.2 ⟨ze84, List.forall_mem_nil _⟩⟩⟩⟩⟩⟩⟩⟩⟩⟩⟩⟩⟩⟩⟩⟩⟩⟩⟩⟩⟩
  fi := List.forall_mem_cons.2 ⟨fl28, List.forall_mem_cons.2 ⟨fl39, List.forall_mem_cons.2 ⟨fl58, List.forall_mem_cons.2 ⟨fl73, List.forall_mem_cons.2 ⟨fl80, List.forall_mem_cons.2 ⟨fl84, List.forall_mem_nil _⟩⟩⟩⟩⟩⟩
  pl := List.forall_mem_cons.2 ⟨pl28, List.forall_mem_cons.2 ⟨pl39, List.forall_mem_cons.2 ⟨pl58, List.forall_mem_cons.2 ⟨pl73, List.forall_mem_cons.2 ⟨pl80, List.forall_mem_cons.2 ⟨pl84, List.forall_mem_nil _⟩⟩⟩⟩⟩⟩
  ar := List.forall_mem_cons.2 ⟨ar48, List.forall_mem_cons.2 ⟨ar49, List.forall_mem_cons.2 ⟨ar64, List.forall_mem_nil _⟩⟩⟩
  sl := List.forall_mem_cons.2 ⟨sl55, List.forall_mem_cons.2 ⟨sl56, List.forall_mem_cons.2 ⟨sl71, List.forall_mem_cons.2 ⟨sl78, List.forall_mem_nil _⟩⟩⟩⟩
  int := List.forall_mem_cons.2 ⟨in2, List.forall_mem_cons.2 ⟨in3, List.forall_mem_cons.2 ⟨in5, List.forall_mem_cons.2 ⟨in22, List.forall_mem_cons.2 ⟨in63, List.forall_mem_nil _⟩⟩⟩⟩⟩
  bool := List.forall_mem_cons.2 ⟨un4, List.forall_mem_nil _⟩
  eq := List.forall_mem_cons.2 ⟨eqT28, List.forall_mem_cons.2 ⟨eqT39, List.forall_mem_cons.2 ⟨eqT73, List.forall_mem_cons.2 ⟨eqT84, List.forall_mem_nil _⟩⟩⟩⟩
  ptr := List.forall_mem_cons.2 ⟨⟨_, un50⟩, List.forall_mem_cons.2 ⟨⟨_, un52⟩, List.forall_mem_nil _⟩⟩
end Go.Proofs.Ytjlgeoaomegbmaa.Eng
