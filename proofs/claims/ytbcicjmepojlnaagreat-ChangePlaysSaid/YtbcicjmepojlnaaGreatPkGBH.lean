/- Texts of this work, laid together: symbolic execution over the model, contracts of the program's functions, what they come to; conditions: as each says. -/
import Derived.Test.YtbcicjmepojlnaaGreatPkGAU
import Derived.Test.YtbcicjmepojlnaaGreatPkGAZ
import Derived.Test.YtbcicjmepojlnaaGreatPkGBG
/- The longest gap; no condition but those typed. -/
namespace Go.Proofs.YtbcicjmepojlnaaGreat.Eng
open Go Go.RowKit
set_option autoImplicit false
set_option linter.unusedSimpArgs false
set_option linter.unusedVariables false
end Go.Proofs.YtbcicjmepojlnaaGreat.Eng
/- mapping: the pure forms; no condition but those typed. -/
namespace Go.Proofs.YtbcicjmepojlnaaGreat.Eng
open Go Go.RowKit
set_option autoImplicit false
set_option linter.unusedSimpArgs false
set_option linter.unusedVariables false
def bitB (f m : Int) : Bool := bits .and .i64 f m != 0
def lenW (l : List Ar) (lo hi : Int) : Bool := decide ((0 : Int) < ((within2L l lo hi).length : Int))
def fixE (l : List Ar) (a n f : Int) : Int := if (rangeE a n != 0) = true then rangeE a n else if (bitB f 2 && lenW l (rangeLo a n) (rangeHi a n)) = true then 6 else 0
def fixV (l : List Ar) (a n f : Int) : Int := if (fixE l a n f != 0) = true then 0 else a
def pickB (l : List Ar) (n f : Int) : Bool := if bitB f 8 = true then (lowN l 65536 2097152 n).2 else (highN l 65536 2097152 n).2
def pickV (l : List Ar) (n f : Int) : Int := if bitB f 8 = true then (lowN l 65536 2097152 n).1 else (highN l 65536 2097152 n).1
def placeE (l : List Ar) (a n f : Int) : Int := if (!mayS l) = true then 1 else if bitB f 1 = true then fixE l a n f else if (a != 0 && fitsL l a n) = true then 0 else if pickB l n f = true then 0 else 5
def placeV (l : List Ar) (a n f : Int) : Int := if (!mayS l) = true then 0 else if bitB f 1 = true then fixV l a n f else if (a != 0 && fitsL l a n) = true then a else if pickB l n f = true then pickV l n f else 0
def askE (c : Cl) : Int := if (sizeE c.n != 0) = true then sizeE c.n else if (protE c.p != 0) = true then protE c.p else if (flagsE c.f 15 != 0) = true then flagsE c.f 15 else if (bits .and .i64 c.f 3 == 2) = true then 1 else backE c.b c.o (sizeV c.n)
def mapE (l : List Ar) (c : Cl) : Int := if (!mayS l) = true then 1 else if (askE c != 0) = true then askE c else placeE l c.a (sizeV c.n) c.f
def mapV (l : List Ar) (c : Cl) : Int := placeV l c.a (sizeV c.n) c.f
def mapA (l : List Ar) (c : Cl) : Ar := ⟨mapV l c, w64 (mapV l c + sizeV c.n), c.p, bitB c.f 4, c.b, c.o⟩
def mapL (l : List Ar) (c : Cl) : List Ar := if (mapE l c != 0) = true then l else keptL l (putL l (mapA l c))
def mapN (l : List Ar) (c : Cl) : An := if (mapE l c != 0) = true then errA (mapE l c) else keptN (putL l (mapA l c)) (mapV l c)
def unE (l : List Ar) (c : Cl) : Int := if (!mayS l) = true then 1 else rangeE c.a c.n
def unS (l : List Ar) (c : Cl) : List Ar := cutL l (rangeLo c.a c.n) (rangeHi c.a c.n)
def unL (l : List Ar) (c : Cl) : List Ar := if (unE l c != 0) = true then l else keptL l (unS l c)
def unN (l : List Ar) (c : Cl) : An := if (unE l c != 0) = true then errA (unE l c) else keptN (unS l c) 0
end Go.Proofs.YtbcicjmepojlnaaGreat.Eng
