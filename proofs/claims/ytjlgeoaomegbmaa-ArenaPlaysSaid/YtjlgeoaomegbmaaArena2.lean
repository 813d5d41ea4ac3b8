/- Handles, cells, births and deaths in plain numbers; no condition but those typed. -/
import Derived.Test.YtjlgeoaomegbmaaArena
namespace Go.Proofs.Ytjlgeoaomegbmaa.Eng
open Go Go.RowKit
set_option autoImplicit false
set_option linter.unusedSimpArgs false
set_option linter.unusedVariables false

theorem and_16 (n : Int) : bits .and .i64 n 65535 = n % 65536 := by
  have h1 : (BitVec.ofInt 64 65535).toNat = 2 ^ 16 - 1 := by decide
  have key : (BitVec.ofInt 64 n &&& BitVec.ofInt 64 65535).toNat = (n % ((2 ^ 64 : Nat) : Int)).toNat % 2 ^ 16 := by
    rw [BitVec.toNat_and, BitVec.toNat_ofInt, h1, Nat.and_two_pow_sub_one_eq_mod]
  show IntKind.i64.wrap ((BitVec.ofInt 64 n &&& BitVec.ofInt 64 65535).toNat : Nat) = n % 65536
  rw [key, IntKind.wrap_i64]
  omega
theorem or_16 {a y : Nat} (ha : a < 1099511627776) (hy : y < 65536) : bits .or .i64 ((a * 65536 : Nat) : Int) (y : Int) = ((a * 65536 + y : Nat) : Int) := by
  have h1 : (BitVec.ofInt 64 ((a * 65536 : Nat) : Int)).toNat = a * 65536 := by
    rw [BitVec.toNat_ofInt]
    show (((a * 65536 : Nat) : Int) % ((2 ^ 64 : Nat) : Int)).toNat = _
    omega
  have h2 : (BitVec.ofInt 64 (y : Int)).toNat = y := by
    rw [BitVec.toNat_ofInt]
    show ((y : Int) % ((2 ^ 64 : Nat) : Int)).toNat = _
    omega
  have key : (BitVec.ofInt 64 ((a * 65536 : Nat) : Int) ||| BitVec.ofInt 64 (y : Int)).toNat = a * 65536 + y := by
    rw [BitVec.toNat_or, h1, h2]
    have := Nat.shiftLeft_add_eq_or_of_lt (i := 16) (b := y) (show y < 2 ^ 16 by omega) a
    rw [Nat.shiftLeft_eq] at this
    exact this.symm
  show IntKind.i64.wrap ((BitVec.ofInt 64 ((a * 65536 : Nat) : Int) ||| BitVec.ofInt 64 (y : Int)).toNat : Nat) = _
  rw [key, IntKind.wrap_i64]
  omega
theorem slotP_eq (h : Int) : slotP h = slotR h ∧ 0 ≤ slotP h ∧ slotP h < 65536 ∧ (0 ≤ h → slotP h = h % 65536) := by
  unfold slotP slotR
  by_cases h0 : h < 0
  · rw [if_pos (by simpa using h0), if_pos (by simpa using h0)]
    exact ⟨rfl, by omega, by omega, fun h => by omega⟩
  · rw [if_neg (by simpa using h0), if_neg (by simpa using h0), and_16, Int.tmod_eq_emod_of_nonneg (by omega)]
    exact ⟨rfl, by omega, by omega, fun _ => rfl⟩
theorem handle_val {l : List St} {slot : Int} (h1 : 0 ≤ gAt l slot) (h2 : gAt l slot ≤ 1000000) (h3 : 0 ≤ slot) (h4 : slot < 65536) : handleP l slot = gAt l slot * 65536 + slot ∧ handleR l slot = gAt l slot * 65536 + slot := by
  constructor
  · unfold handleP
    have e1 : (2 : Int) ^ (16 : Int).toNat = 65536 := by decide
    rw [e1, w64_id (by unfold In64; omega)]
    obtain ⟨g, hg⟩ : ∃ g : Nat, gAt l slot = g := ⟨(gAt l slot).toNat, by omega⟩
    obtain ⟨y, rfl⟩ : ∃ y : Nat, slot = y := ⟨slot.toNat, by omega⟩
    rw [hg]
    have := or_16 (a := g) (y := y) (by omega) (by omega)
    rw [show ((g : Int) * 65536) = ((g * 65536 : Nat) : Int) by omega, this]
    omega
  · unfold handleR
    rw [w64_id (n := gAt l slot * 65536) (by unfold In64; omega), w64_id (by unfold In64; omega)]
theorem cells_eq (fi : Int) (l : List St) (h word : Int) : cellP fi l h word = cellR fi l h word := by
  obtain ⟨e, _⟩ := slotP_eq h
  unfold cellP cellR hasSl
  rw [e]
  have c : (!(decide (slotR h ≥ 1) && decide (slotR h ≤ (l.length : Int))) || decide (word < 0) || decide (word ≥ 28)) = (decide (slotR h < 1) || decide (slotR h > (l.length : Int)) || decide (word < 0) || decide (word > 27)) := by
    rw [Bool.eq_iff_iff]
    simp only [Bool.or_eq_true, Bool.not_eq_true', Bool.and_eq_false_iff, decide_eq_true_eq, decide_eq_false_iff_not]
    omega
  rw [c, Int.mul_comm]
/-- The cell of a word, where there is one. -/
theorem cell_val {fi : Int} {l : List St} {h word : Int} (hf : 0 ≤ fi ∧ fi ≤ 65536) (hl : l.length ≤ 1000) : (cellP fi l h word = -1 ∧ ¬ (1 ≤ slotP h ∧ slotP h ≤ l.length ∧ 0 ≤ word ∧ word < 28)) ∨
    (cellP fi l h word = fi + 28 * (slotP h - 1) + word ∧ 1 ≤ slotP h ∧ slotP h ≤ l.length ∧ 0 ≤ word ∧ word < 28) := by
  unfold cellP hasSl
  by_cases hc : 1 ≤ slotP h ∧ slotP h ≤ l.length ∧ 0 ≤ word ∧ word < 28
  · right
    refine ⟨?_, hc⟩
    rw [if_neg (by simp; omega), w64_id (n := slotP h - 1) (by unfold In64; omega), w64_id (n := (slotP h - 1) * 28) (by unfold In64; omega), w64_id (n := fi + (slotP h - 1) * 28) (by unfold In64; omega), w64_id (by unfold In64; omega)]
    omega
  · left
    refine ⟨if_pos ?_, hc⟩
    simp only [Bool.or_eq_true, Bool.not_eq_true', Bool.and_eq_false_iff, decide_eq_true_eq, decide_eq_false_iff_not]
    omega
theorem apart_key {l : List St} {a b v w : Int} (hl : l.length = 50) (hc : ¬ cellP 100 l a v < 0) (hd : ¬ cellP 100 l b w < 0) :
    100 ≤ cellP 100 l a v ∧ cellP 100 l a v < 1500 ∧ ((cellP 100 l a v == cellP 100 l b w) = ((slotP a == slotP b) && (v == w))) := by
  rcases cell_val (fi := 100) (l := l) (h := a) (word := v) (by omega) (by omega) with ⟨h1, _⟩ | ⟨h1, h2⟩
  · omega
  · rcases cell_val (fi := 100) (l := l) (h := b) (word := w) (by omega) (by omega) with ⟨h3, _⟩ | ⟨h3, h4⟩
    · omega
    · rw [h1, h3]
      refine ⟨by omega, by omega, ?_⟩
      rw [Bool.eq_iff_iff]
      simp only [Bool.and_eq_true, beq_iff_eq]
      omega
end Go.Proofs.Ytjlgeoaomegbmaa.Eng
