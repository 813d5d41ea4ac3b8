/- Texts of this work, laid together: symbolic execution over the model, contracts of the program's functions, what they come to; conditions: as each says. -/
import Derived.Test.YtbcicjmepojlnaaGreatProg
import Derived.KernelRfl
import Derived.WalkKit
import Derived.JoinedOf
/- How the program was made, out of its head's words; no condition. -/
namespace Go.Proofs.YtbcicjmepojlnaaGreat.Eng
open Go
set_option linter.unusedVariables false
set_option maxRecDepth 100000
def sp : Char := Char.ofNat 32
theorem words_app : ∀ (w r : List Char), (w.all fun c => c != sp) = true → wordsSigns (w ++ sp :: r) = w :: wordsSigns r
  | [], r, _ => rfl
  | c :: w, r, h => by
    simp only [List.all_cons, Bool.and_eq_true, bne_iff_ne, ne_eq] at h
    have ih := words_app w r (by simpa using h.2)
    rw [List.cons_append, wordsSigns]
    · rw [ih]
    · exact h.1
def headA : List Char := [Char.ofNat 104, Char.ofNat 97, Char.ofNat 114, Char.ofNat 110, Char.ofNat 101, Char.ofNat 115, Char.ofNat 115]
def headB : List Char := [Char.ofNat 49, Char.ofNat 53, Char.ofNat 54, Char.ofNat 51, Char.ofNat 53, Char.ofNat 48, Char.ofNat 101, Char.ofNat 100, Char.ofNat 53, Char.ofNat 98, Char.ofNat 53, Char.ofNat 99, Char.ofNat 98, Char.ofNat 57, Char.ofNat 101, Char.ofNat 97, Char.ofNat 49, Char.ofNat 54, Char.ofNat 52, Char.ofNat 50, Char.ofNat 57, Char.ofNat 53, Char.ofNat 98, Char.ofNat 49, Char.ofNat 99, Char.ofNat 52, Char.ofNat 102, Char.ofNat 55, Char.ofNat 100, Char.ofNat 56, Char.ofNat 101, Char.ofNat 53, Char.ofNat 102, Char.ofNat 54, Char.ofNat 51, Char.ofNat 56, Char.ofNat 49, Char.ofNat 55, Char.ofNat 51, Char.ofNat 53, Char.ofNat 56, Char.ofNat 98, Char.ofNat 102, Char.ofNat 97, Char.ofNat 101, Char.ofNat 99, Char.ofNat 51, Char.ofNat 102, Char.ofNat 54, Char.ofNat 99, Char.ofNat 98, Char.ofNat 54, Char.ofNat 48, Char.ofNat 102, Char.ofNat 55, Char.ofNat 56, Char.ofNat 57, Char.ofNat 51, Char.ofNat 53, Char.ofNat 50, Char.ofNat 100, Char.ofNat 48, Char.ofNat 49, Char.ofNat 55]
def headC : List Char := [Char.ofNat 99, Char.ofNat 117, Char.ofNat 116]
def headR : List Char := [Char.ofNat 97, Char.ofNat 116, Char.ofNat 32, Char.ofNat 115, Char.ofNat 97, Char.ofNat 109, Char.ofNat 97, Char.ofNat 114, Char.ofNat 97, Char.ofNat 47, Char.ofNat 115, Char.ofNat 97, Char.ofNat 109, Char.ofNat 97, Char.ofNat 114, Char.ofNat 97, Char.ofNat 108, Char.ofNat 97, Char.ofNat 119, Char.ofNat 49, Char.ofNat 52, Char.ofNat 46, Char.ofNat 67, Char.ofNat 104, Char.ofNat 97, Char.ofNat 110, Char.ofNat 103, Char.ofNat 101, Char.ofNat 80, Char.ofNat 108, Char.ofNat 97, Char.ofNat 121, Char.ofNat 115]
theorem head_is : Tryz.prog.initOrder = String.ofList (headA ++ sp :: (headB ++ sp :: (headC ++ sp :: headR))) := by kernel_rfl
theorem main_b : ((headA == "harness".toList || headA == "ownmain".toList) && isSumSigns headB) = true := by decide +kernel
theorem words_are : behindMainWord (wordsSigns Tryz.prog.initOrder.toList) = headC :: wordsSigns headR := by
  rw [head_is, String.toList_ofList, words_app headA _ (by decide +kernel), words_app headB _ (by decide +kernel), words_app headC _ (by decide +kernel)]
  generalize wordsSigns headR = R
  show (if ((headA == "harness".toList || headA == "ownmain".toList) && isSumSigns headB) = true then headC :: R else headA :: headB :: headC :: R) = headC :: R
  rw [main_b]
  rfl
theorem c1 : (headC == "gc".toList || headC == "spec".toList) = false := by decide +kernel
theorem c2 : (headC == "cut".toList) = true := by decide +kernel
theorem c3 : (headC == "carried".toList) = false := by decide +kernel
theorem strip_is (R : List (List Char)) : stripLifts liftWords (headC :: R) = ([], headC :: R) := by kernel_rfl
theorem head_o {a b : List Char} (h : (a == b) = true) (R : List (List Char)) : ((a :: R).head? == some b) = true := by
  have : a = b := by simpa using h
  subst this
  simp
theorem head_n {a b : List Char} (h : (a == b) = false) (R : List (List Char)) : ((a :: R).head? == some b) = false := by
  cases hb : ((a :: R).head? == some b) with
  | false => rfl
  | true =>
    have : a = b := by simpa using hb
    subst this
    simp at h
theorem make_of (P : Program) {c : List Char} {R : List (List Char)} (hw : behindMainWord (wordsSigns P.initOrder.toList) = c :: R) (h1 : (c == "gc".toList || c == "spec".toList) = false) (h2 : (c == "cut".toList) = true) : P.make = some .cut := by
  unfold Program.make
  rw [hw]
  simp only [h1, h2, Bool.true_or, if_true]
  rfl
theorem make_is : Tryz.prog.make = some .cut := make_of Tryz.prog words_are c1 c2
theorem lifts_of (P : Program) {c : List Char} {R : List (List Char)} (hw : behindMainWord (wordsSigns P.initOrder.toList) = c :: R) (hs : stripLifts liftWords (c :: R) = ([], c :: R)) (h2 : (c == "cut".toList) = true) (h3 : (c == "carried".toList) = false) : P.liftsFinal = false := by
  unfold Program.liftsFinal Program.headLifts
  rw [hw]
  simp only [hs, head_o h2, head_n h3, Bool.false_and, Bool.false_or, if_true]
  rfl
theorem lifts_is : Tryz.prog.liftsFinal = false := lifts_of Tryz.prog words_are (strip_is _) c2 c3
theorem lays_is : Tryz.prog.laysLater = false := by kernel_rfl
theorem refl_is : Tryz.prog.bearsReflect = false := by kernel_rfl
theorem door_is : Tryz.prog.doorFits [] = true := by kernel_rfl
theorem enter_of (P : Program) {c : List Char} {R : List (List Char)} (hw : behindMainWord (wordsSigns P.initOrder.toList) = c :: R) (hs : stripLifts liftWords (c :: R) = ([], c :: R)) (h2 : (c == "cut".toList) = true) (h3 : P.laysLater = false) (h4 : P.bearsReflect = false) (h5 : P.doorFits [] = true) : P.mayEnter = true := by
  unfold Program.mayEnter
  rw [hw]
  simp only [hs, h3, h4, h5, head_o h2]
  simp
theorem enter_is : Tryz.prog.mayEnter = true := enter_of Tryz.prog words_are (strip_is _) c2 lays_is refl_is door_is
theorem and_mk {a b : Bool} (h : a = true) (k : b = true) : (a && b) = true := by rw [h, k]; rfl
end Go.Proofs.YtbcicjmepojlnaaGreat.Eng
