/- Closed facts on the types of the program; no condition. -/
import Derived.Test.YtjlgeoaomegbmaaProg
import Derived.Test.YtjlgeoaomegbmaaEng14
import Derived.KernelRfl
namespace Go.Proofs.Ytjlgeoaomegbmaa.Eng
open Go Go.RowKit
set_option maxRecDepth 100000
set_option linter.unusedSimpArgs false
theorem mixed : Try.prog.follows .mixedOrders = true := by kernel_rfl
theorem sz2 : szT Try.prog 2 = some (false, 1) := by kernel_rfl
theorem ze2 : zeroT Try.prog 2 = some [.v (.int .i64 0)] := by kernel_rfl
theorem in2 : intT Try.prog 2 = some .i64 := by kernel_rfl
theorem sz3 : szT Try.prog 3 = some (false, 1) := by kernel_rfl
theorem ze3 : zeroT Try.prog 3 = some [.v (.int .i64 0)] := by kernel_rfl
theorem in3 : intT Try.prog 3 = some .i64 := by kernel_rfl
theorem sz4 : szT Try.prog 4 = some (false, 1) := by kernel_rfl
theorem ze4 : zeroT Try.prog 4 = some [.v (.bool false)] := by kernel_rfl
theorem un4 : Try.prog.underlying 4 = some .bool := by kernel_rfl
theorem sz5 : szT Try.prog 5 = some (false, 1) := by kernel_rfl
theorem ze5 : zeroT Try.prog 5 = some [.v (.int .u8 0)] := by kernel_rfl
theorem in5 : intT Try.prog 5 = some .u8 := by kernel_rfl
theorem sz22 : szT Try.prog 22 = some (false, 1) := by kernel_rfl
theorem ze22 : zeroT Try.prog 22 = some [.v (.int .i64 0)] := by kernel_rfl
theorem in22 : intT Try.prog 22 = some .i64 := by kernel_rfl
theorem sz28 : szT Try.prog 28 = some (true, 6) := by kernel_rfl
theorem ze28 : zeroT Try.prog 28 = some [.v (.int .i64 0), .v (.int .i64 0), .v (.int .i64 0), .v (.bool false), .v (.int .i64 0), .v (.int .i64 0)] := by kernel_rfl
theorem fi28_0 : fieldT Try.prog 28 0 = some 0 := by kernel_rfl
theorem fi28_1 : fieldT Try.prog 28 1 = some 1 := by kernel_rfl
theorem fi28_2 : fieldT Try.prog 28 2 = some 2 := by kernel_rfl
theorem fi28_3 : fieldT Try.prog 28 3 = some 3 := by kernel_rfl
theorem fi28_4 : fieldT Try.prog 28 4 = some 4 := by kernel_rfl
theorem fi28_5 : fieldT Try.prog 28 5 = some 5 := by kernel_rfl
theorem pl28 : placesT Try.prog 28 = some [(0, 1), (1, 1), (2, 1), (3, 1), (4, 1), (5, 1)] := by kernel_rfl
theorem sz39 : szT Try.prog 39 = some (true, 4) := by kernel_rfl
theorem ze39 : zeroT Try.prog 39 = some [.v (.int .i64 0), .v (.bool false), .v (.int .i64 0), .v (.int .i64 0)] := by kernel_rfl
theorem fi39_0 : fieldT Try.prog 39 0 = some 0 := by kernel_rfl
theorem fi39_1 : fieldT Try.prog 39 1 = some 1 := by kernel_rfl
theorem fi39_2 : fieldT Try.prog 39 2 = some 2 := by kernel_rfl
theorem fi39_3 : fieldT Try.prog 39 3 = some 3 := by kernel_rfl
theorem pl39 : placesT Try.prog 39 = some [(0, 1), (1, 1), (2, 1), (3, 1)] := by kernel_rfl
theorem sz48 : szT Try.prog 48 = some (true, 2) := by kernel_rfl
theorem ze48 : zeroT Try.prog 48 = some [.v (.int .i64 0), .v (.int .i64 0)] := by kernel_rfl
theorem ar48 : arrT Try.prog 48 = some (2, 1) := by kernel_rfl
theorem sz49 : szT Try.prog 49 = some (true, 2) := by kernel_rfl
theorem ze49 : zeroT Try.prog 49 = some [.v (.int .i64 0), .v (.int .i64 0)] := by kernel_rfl
theorem ar49 : arrT Try.prog 49 = some (2, 1) := by kernel_rfl
theorem sz63 : szT Try.prog 63 = some (false, 1) := by kernel_rfl
theorem ze63 : zeroT Try.prog 63 = some [.v (.int .u16 0)] := by kernel_rfl
theorem in63 : intT Try.prog 63 = some .u16 := by kernel_rfl
theorem sz64 : szT Try.prog 64 = some (true, 4) := by kernel_rfl
theorem ze64 : zeroT Try.prog 64 = some [.v (.int .u16 0), .v (.int .u16 0), .v (.int .u16 0), .v (.int .u16 0)] := by kernel_rfl
theorem ar64 : arrT Try.prog 64 = some (4, 1) := by kernel_rfl
theorem eqD28 (d : Nat) (x0 y0 : Int) (x1 y1 : Int) (x2 y2 : Int) (x3 y3 : Bool) (x4 y4 : Int) (x5 y5 : Int) (w : World) : (Op.equalIn (d + 2) 28 (.agg #[.int .i64 x0, .int .i64 x1, .int .i64 x2, .bool x3, .int .i64 x4, .int .i64 x5]) (.agg #[.int .i64 y0, .int .i64 y1, .int .i64 y2, .bool y3, .int .i64 y4, .int .i64 y5])).run Try.prog w = .ok ((x0 == y0) && ((x1 == y1) && ((x2 == y2) && ((x3 == y3) && ((x4 == y4) && ((x5 == y5) && true)))))) w := by
  refine sEq_of Try.underlying28 (by kernel_rfl) ?_
  refine sEq_cons (by decide) (sPart_one sz2 rfl) (sPart_one sz2 rfl) (sEq_int in2) ?_
  refine sEq_cons (by decide) (sPart_one sz2 rfl) (sPart_one sz2 rfl) (sEq_int in2) ?_
  refine sEq_cons (by decide) (sPart_one sz3 rfl) (sPart_one sz3 rfl) (sEq_int in3) ?_
  refine sEq_cons (by decide) (sPart_one sz4 rfl) (sPart_one sz4 rfl) (sEq_bool un4) ?_
  refine sEq_cons (by decide) (sPart_one sz3 rfl) (sPart_one sz3 rfl) (sEq_int in3) ?_
  refine sEq_cons (by decide) (sPart_one sz2 rfl) (sPart_one sz2 rfl) (sEq_int in2) ?_
  exact sEq_nil
theorem eqT28 (xs ys : List C) (r : Bool) (h0 : eqCells [.int .i64, .int .i64, .int .i64, .bool, .int .i64, .int .i64] xs ys = some r) : EqFact Try.prog 28 xs ys r := by
  obtain ⟨x0, y0, xs1, ys1, r1, rfl, rfl, h1, rfl⟩ := eqCells_int h0
  obtain ⟨x1, y1, xs2, ys2, r2, rfl, rfl, h2, rfl⟩ := eqCells_int h1
  obtain ⟨x2, y2, xs3, ys3, r3, rfl, rfl, h3, rfl⟩ := eqCells_int h2
  obtain ⟨x3, y3, xs4, ys4, r4, rfl, rfl, h4, rfl⟩ := eqCells_bool h3
  obtain ⟨x4, y4, xs5, ys5, r5, rfl, rfl, h5, rfl⟩ := eqCells_int h4
  obtain ⟨x5, y5, xs6, ys6, r6, rfl, rfl, h6, rfl⟩ := eqCells_int h5
  obtain ⟨rfl, rfl, rfl⟩ := eqCells_nil h6
  refine ⟨by kernel_rfl, fun w => ?_⟩
  exact eqD28 9998 x0 y0 x1 y1 x2 y2 x3 y3 x4 y4 x5 y5 w
theorem eqD39 (d : Nat) (x0 y0 : Int) (x1 y1 : Bool) (x2 y2 : Int) (x3 y3 : Int) (w : World) : (Op.equalIn (d + 2) 39 (.agg #[.int .i64 x0, .bool x1, .int .i64 x2, .int .i64 x3]) (.agg #[.int .i64 y0, .bool y1, .int .i64 y2, .int .i64 y3])).run Try.prog w = .ok ((x0 == y0) && ((x1 == y1) && ((x2 == y2) && ((x3 == y3) && true)))) w := by
  refine sEq_of Try.underlying39 (by kernel_rfl) ?_
  refine sEq_cons (by decide) (sPart_one sz3 rfl) (sPart_one sz3 rfl) (sEq_int in3) ?_
  refine sEq_cons (by decide) (sPart_one sz4 rfl) (sPart_one sz4 rfl) (sEq_bool un4) ?_
  refine sEq_cons (by decide) (sPart_one sz3 rfl) (sPart_one sz3 rfl) (sEq_int in3) ?_
  refine sEq_cons (by decide) (sPart_one sz2 rfl) (sPart_one sz2 rfl) (sEq_int in2) ?_
  exact sEq_nil
theorem eqT39 (xs ys : List C) (r : Bool) (h0 : eqCells [.int .i64, .bool, .int .i64, .int .i64] xs ys = some r) : EqFact Try.prog 39 xs ys r := by
  obtain ⟨x0, y0, xs1, ys1, r1, rfl, rfl, h1, rfl⟩ := eqCells_int h0
  obtain ⟨x1, y1, xs2, ys2, r2, rfl, rfl, h2, rfl⟩ := eqCells_bool h1
  obtain ⟨x2, y2, xs3, ys3, r3, rfl, rfl, h3, rfl⟩ := eqCells_int h2
  obtain ⟨x3, y3, xs4, ys4, r4, rfl, rfl, h4, rfl⟩ := eqCells_int h3
  obtain ⟨rfl, rfl, rfl⟩ := eqCells_nil h4
  refine ⟨by kernel_rfl, fun w => ?_⟩
  exact eqD39 9998 x0 y0 x1 y1 x2 y2 x3 y3 w
theorem fl28 (k o : Nat) (h : [0, 1, 2, 3, 4, 5][k]? = some o) : fieldT Try.prog 28 k = some o := by
  match k, h with
  | 0, h => injection h with h; subst h; exact fi28_0
  | 1, h => injection h with h; subst h; exact fi28_1
  | 2, h => injection h with h; subst h; exact fi28_2
  | 3, h => injection h with h; subst h; exact fi28_3
  | 4, h => injection h with h; subst h; exact fi28_4
  | 5, h => injection h with h; subst h; exact fi28_5
  | k + 6, h => simp at h
theorem fl39 (k o : Nat) (h : [0, 1, 2, 3][k]? = some o) : fieldT Try.prog 39 k = some o := by
  match k, h with
  | 0, h => injection h with h; subst h; exact fi39_0
  | 1, h => injection h with h; subst h; exact fi39_1
  | 2, h => injection h with h; subst h; exact fi39_2
  | 3, h => injection h with h; subst h; exact fi39_3
  | k + 4, h => simp at h
def FT : TT where
  sz := [(2, (false, 1)), (3, (false, 1)), (4, (false, 1)), (5, (false, 1)), (22, (false, 1)), (28, (true, 6)), (39, (true, 4)), (48, (true, 2)), (49, (true, 2)), (63, (false, 1)), (64, (true, 4))]
  ze := [(2, [.v (.int .i64 0)]), (3, [.v (.int .i64 0)]), (4, [.v (.bool false)]), (5, [.v (.int .u8 0)]), (22, [.v (.int .i64 0)]), (28, [.v (.int .i64 0), .v (.int .i64 0), .v (.int .i64 0), .v (.bool false), .v (.int .i64 0), .v (.int .i64 0)]), (39, [.v (.int .i64 0), .v (.bool false), .v (.int .i64 0), .v (.int .i64 0)]), (48, [.v (.int .i64 0), .v (.int .i64 0)]), (49, [.v (.int .i64 0), .v (.int .i64 0)]), (63, [.v (.int .u16 0)]), (64, [.v (.int .u16 0), .v (.int .u16 0), .v (.int .u16 0), .v (.int .u16 0)])]
  fi := [(28, [0, 1, 2, 3, 4, 5]), (39, [0, 1, 2, 3])]
  pl := [(28, [(0, 1), (1, 1), (2, 1), (3, 1), (4, 1), (5, 1)]), (39, [(0, 1), (1, 1), (2, 1), (3, 1)])]
  ar := [(48, (2, 1)), (49, (2, 1)), (64, (4, 1))]
  sl := []
  int := [(2, .i64), (3, .i64), (5, .u8), (22, .i64), (63, .u16)]
  bool := [(4, ())]
  eq := [(28, [.int .i64, .int .i64, .int .i64, .bool, .int .i64, .int .i64]), (39, [.int .i64, .bool, .int .i64, .int .i64])]
theorem FTok : TTok Try.prog FT where
  sz := List.forall_mem_cons.2 ⟨sz2, List.forall_mem_cons.2 ⟨sz3, List.forall_mem_cons.2 ⟨sz4, List.forall_mem_cons.2 ⟨sz5, List.forall_mem_cons.2 ⟨sz22, List.forall_mem_cons.2 ⟨sz28, List.forall_mem_cons.2 ⟨sz39, List.forall_mem_cons.2 ⟨sz48, List.forall_mem_cons.2 ⟨sz49, List.forall_mem_cons.2 ⟨sz63, List.forall_mem_cons.2 ⟨sz64, List.forall_mem_nil _⟩⟩⟩⟩⟩⟩⟩⟩⟩⟩⟩
  ze := List.forall_mem_cons.2 ⟨ze2, List.forall_mem_cons.2 ⟨ze3, List.forall_mem_cons.2 ⟨ze4, List.forall_mem_cons.2 ⟨ze5, List.forall_mem_cons.2 ⟨ze22, List.forall_mem_cons.2 ⟨ze28, List.forall_mem_cons.2 ⟨ze39, List.forall_mem_cons.2 ⟨ze48, List.forall_mem_cons.2 ⟨ze49, List.forall_mem_cons.2 ⟨ze63, List.forall_mem_cons.2 ⟨ze64, List.forall_mem_nil _⟩⟩⟩⟩⟩⟩⟩⟩⟩⟩⟩
  fi := List.forall_mem_cons.2 ⟨fl28, List.forall_mem_cons.2 ⟨fl39, List.forall_mem_nil _⟩⟩
  pl := List.forall_mem_cons.2 ⟨pl28, List.forall_mem_cons.2 ⟨pl39, List.forall_mem_nil _⟩⟩
  ar := List.forall_mem_cons.2 ⟨ar48, List.forall_mem_cons.2 ⟨ar49, List.forall_mem_cons.2 ⟨ar64, List.forall_mem_nil _⟩⟩⟩
  sl := List.forall_mem_nil _
  int := List.forall_mem_cons.2 ⟨in2, List.forall_mem_cons.2 ⟨in3, List.forall_mem_cons.2 ⟨in5, List.forall_mem_cons.2 ⟨in22, List.forall_mem_cons.2 ⟨in63, List.forall_mem_nil _⟩⟩⟩⟩⟩
  bool := List.forall_mem_cons.2 ⟨un4, List.forall_mem_nil _⟩
  eq := List.forall_mem_cons.2 ⟨eqT28, List.forall_mem_cons.2 ⟨eqT39, List.forall_mem_nil _⟩⟩
end Go.Proofs.Ytjlgeoaomegbmaa.Eng
