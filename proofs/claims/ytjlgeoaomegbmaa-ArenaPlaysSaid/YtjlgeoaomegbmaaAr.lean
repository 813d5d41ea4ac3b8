/- An area as this work speaks of it, and what the functions of layer 6 come to, in plain words; no condition. -/
import Derived.Test.YtjlgeoaomegbmaaEng16
namespace Go.Proofs.Ytjlgeoaomegbmaa.Eng
open Go Go.RowKit
set_option autoImplicit false

structure Ar where
  s : Int
  e : Int
  p : Int
  sh : Bool
  b : Int
  o : Int
structure At where
  p : Int
  sh : Bool
  b : Int
  o : Int
def encA (a : Ar) : List C := [.v (.int .i64 a.s), .v (.int .i64 a.e), .v (.int .i64 a.p), .v (.bool a.sh), .v (.int .i64 a.b), .v (.int .i64 a.o)]
def encT (a : At) : List C := [.v (.int .i64 a.p), .v (.bool a.sh), .v (.int .i64 a.b), .v (.int .i64 a.o)]
def valA (a : Ar) : Value := .agg #[.int .i64 a.s, .int .i64 a.e, .int .i64 a.p, .bool a.sh, .int .i64 a.b, .int .i64 a.o]
def noAr : Ar := ⟨0, 0, 0, false, 0, 0⟩
def noAt : At := ⟨0, false, 0, 0⟩
@[simp] theorem Ar.eta (a : Ar) : (⟨a.s, a.e, a.p, a.sh, a.b, a.o⟩ : Ar) = a := rfl
@[simp] theorem At.eta (a : At) : (⟨a.p, a.sh, a.b, a.o⟩ : At) = a := rfl

abbrev w64 (n : Int) : Int := IntKind.i64.wrap n
def whole (n : Int) : Bool := Int.tmod n 4096 == 0
def formed (a : Ar) : Bool :=
  if (!whole a.s || !whole a.e || decide (a.s < 65536) || decide (a.e > 2097152) || decide (a.s ≥ a.e)) = true then false
  else if (decide (a.p < 0) || decide (a.p > 7) || decide (a.b < 0) || decide (a.b > 9)) = true then false
  else if a.b = 0 then a.o == 0
  else whole a.o && decide (a.o ≥ 0) && decide (a.o ≤ w64 (1099511627776 - w64 (a.e - a.s)))
def hasA (a : Ar) (at_ : Int) : Bool := formed a && decide (at_ ≥ a.s) && decide (at_ < a.e)
def offA (a : Ar) (at_ : Int) : Int := if a.b = 0 then 0 else w64 (w64 (a.o + at_) - a.s)
def attrA (a : Ar) (at_ : Int) : At := if hasA a at_ = true then ⟨a.p, a.sh, a.b, offA a (w64 (at_ - Int.tmod at_ 4096))⟩ else noAt
def goesA (a b : Ar) : Bool := formed a && formed b && a.e == b.s && a.p == b.p && a.sh == b.sh && a.b == b.b && b.o == offA a a.e
def joinsA (a b : Ar) : Bool := goesA a b && formed ⟨a.s, b.e, a.p, a.sh, a.b, a.o⟩
def joinA (a b : Ar) : Ar := if joinsA a b = true then { a with e := b.e } else noAr
def floorA (n : Int) : Int := w64 (n - Int.tmod (w64 (Int.tmod n 4096 + 4096)) 4096)
def ceilA (n : Int) : Int := if n > 2097152 then 2097152 else w64 (0 - floorA (w64 (0 - n)))
def maxI (a b : Int) : Int := if b > a then b else a
def minI (a b : Int) : Int := if b < a then b else a
def fromA (a : Ar) (lo : Int) : Int := maxI a.s (floorA (maxI lo 0))
def toA (a : Ar) (hi : Int) : Int := minI a.e (ceilA hi)
theorem maxI_def (a b : Int) : maxI a b = if b > a then b else a := rfl
theorem minI_def (a b : Int) : minI a b = if b < a then b else a := rfl
theorem fromA_def (a : Ar) (lo : Int) : fromA a lo = maxI a.s (floorA (maxI lo 0)) := rfl
theorem toA_def (a : Ar) (hi : Int) : toA a hi = minI a.e (ceilA hi) := rfl
def hasPart (a : Ar) (lo hi : Int) : Bool :=
  if (!formed a || decide (hi ≤ a.s) || decide (lo ≥ a.e) || decide (lo ≥ hi)) = true then false
  else !decide (fromA a lo ≥ toA a hi)
def partA (a : Ar) (lo hi : Int) : Ar := if hasPart a lo hi = true then ⟨fromA a lo, toA a hi, a.p, a.sh, a.b, offA a (fromA a lo)⟩ else noAr
def mayA (a : Ar) (k : Int) : Bool := decide (k ≥ 1) && decide (k ≤ 7) && bits .and .i64 a.p k == k

end Go.Proofs.Ytjlgeoaomegbmaa.Eng
