/- Texts of this work, laid together: symbolic execution over the model, contracts of the program's functions, what they come to; conditions: as each says. -/
import Derived.Test.YtbcicjmepojlnaaPkBaseAF
/- What layer 9's functions come to, in plain words; the flags' loop; no condition but those typed. -/
namespace Go.Proofs.Ytbcicjmepojlnaa.Eng
open Go Go.RowKit
set_option autoImplicit false
set_option linter.unusedSimpArgs false
set_option linter.unusedVariables false

def sizeBad (n : Int) : Bool := decide (n < 0) || decide (n > 2031616)
def sizeV (n : Int) : Int := if (n == 0) = true then 0 else if sizeBad n = true then 0 else w64 (w64 (Int.tdiv (w64 (w64 (n + 4096) - 1)) 4096) * 4096)
def sizeE (n : Int) : Int := if (n == 0) = true then 3 else if sizeBad n = true then 4 else 0
def protE (p : Int) : Int := if (decide (p < 0) || decide (p > 7)) = true then 1 else 0
def flagsE (f a : Int) : Int := if (decide (f < 0) || bits .andNot .i64 f a != 0) = true then 1 else 0
theorem aw9 : sizeE 1 = 0 ∧ sizeV 1 = 4096 ∧ protE 8 = 1 := by decide +kernel

theorem sub_step (n a : Nat) : (n &&& a = n) ↔ ((n % 2 = 1 → a % 2 = 1) ∧ (n / 2) &&& (a / 2) = n / 2) := by
  constructor
  · intro h
    refine ⟨fun h1 => ?_, ?_⟩
    · have := congrArg (fun x => Nat.testBit x 0) h
      simp at this
      omega
    · have := congrArg (fun x => x / 2) h
      simpa [Nat.and_div_two] using this
  · rintro ⟨h0, h1⟩
    apply Nat.eq_of_testBit_eq
    intro i
    cases i with
    | zero =>
      simp only [Nat.testBit_and, Nat.testBit_zero]
      by_cases h : n % 2 = 1
      · simp [h, h0 h]
      · simp [h]
    | succ i => rw [Nat.testBit_succ, Nat.testBit_succ, Nat.and_div_two, h1]
theorem andNot_zero (n a : Nat) (hn : n < 9223372036854775808) (ha : a < 256) : (bits .andNot .i64 n a = 0) ↔ n &&& a = n := by
  have e1 : BitVec.ofInt 64 (n : Int) = BitVec.ofNat 64 n := by simp
  have e2 : BitVec.ofInt 64 (a : Int) = BitVec.ofNat 64 a := by simp
  have key : (BitVec.ofNat 64 n &&& ~~~ BitVec.ofNat 64 a) = 0#64 ↔ n &&& a = n := by
    constructor
    · intro h
      apply Nat.eq_of_testBit_eq
      intro i
      rw [Nat.testBit_and]
      by_cases hi : i < 64
      · have := congrArg (fun x => BitVec.getLsbD x i) h
        simp only [BitVec.getLsbD_and, BitVec.getLsbD_not, BitVec.getLsbD_ofNat, BitVec.getLsbD_zero, hi, decide_true, Bool.true_and] at this
        cases hb : n.testBit i <;> cases hc : a.testBit i <;> simp_all
      · have : n.testBit i = false := Nat.testBit_lt_two_pow (Nat.lt_of_lt_of_le (show n < 2 ^ 64 by omega) (Nat.pow_le_pow_right (by decide) (by omega)))
        simp [this]
    · intro h
      apply BitVec.eq_of_getLsbD_eq
      intro i hi
      have := congrArg (fun x => Nat.testBit x i) h
      simp only [Nat.testBit_and] at this
      simp only [BitVec.getLsbD_and, BitVec.getLsbD_not, BitVec.getLsbD_ofNat, BitVec.getLsbD_zero, hi, decide_true, Bool.true_and]
      cases hb : n.testBit i <;> cases hc : a.testBit i <;> simp_all
  have e : bits .andNot .i64 n a = IntKind.i64.wrap ((BitVec.ofNat 64 n &&& ~~~ BitVec.ofNat 64 a).toNat : Int) := by
    show IntKind.i64.wrap ((BitVec.ofInt 64 (n : Int) &&& ~~~ BitVec.ofInt 64 (a : Int)).toNat : Int) = _
    rw [e1, e2]
  rw [e, ← key]
  generalize (BitVec.ofNat 64 n &&& ~~~ BitVec.ofNat 64 a) = x
  have hx := x.isLt
  constructor
  · intro h
    apply BitVec.eq_of_toNat_eq
    simp only [IntKind.wrap, IntKind.bits, IntKind.signed] at h
    simp at h ⊢
    split at h <;> omega
  · rintro rfl
    rfl
structure FlOk (f al n a w : Int) : Prop where
  lo : -9223372036854775808 ≤ n
  hi : n ≤ 9223372036854775807
  alo : 0 ≤ a
  ahi : a ≤ 255
  eq : (if n.toNat &&& a.toNat = n.toNat then w else 1) = flagsE f al
def flW (n a w : Int) : Int := if (Int.tmod n 2 == 1 && Int.tmod a 2 == 0) = true then 1 else w
theorem fl_half {n : Int} (h : 0 ≤ n) (h2 : n ≤ 9223372036854775807) : w64 (Int.tdiv n 2) = n / 2 := by
  rw [Int.tdiv_eq_ediv_of_nonneg h]; exact w64_id (by unfold In64; omega)
theorem FlOk.step {f al n a w : Int} (h : FlOk f al n a w) (hn : 0 < n) : FlOk f al (w64 (Int.tdiv n 2)) (w64 (Int.tdiv a 2)) (flW n a w) := by
  obtain ⟨h1, h2, h3, h4, h5⟩ := h
  rw [fl_half (by omega) h2, fl_half h3 (by omega)]
  refine ⟨by omega, by omega, by omega, by omega, ?_⟩
  rw [← h5]
  have hs := sub_step n.toNat a.toNat
  have e1 : (n / 2).toNat = n.toNat / 2 := by omega
  have e2 : (a / 2).toNat = a.toNat / 2 := by omega
  rw [e1, e2]
  unfold flW
  rw [Int.tmod_eq_emod_of_nonneg (by omega), Int.tmod_eq_emod_of_nonneg h3]
  by_cases b1 : n % 2 = 1
  · by_cases b2 : a % 2 = 0
    · rw [if_pos (c := (n % 2 == 1 && a % 2 == 0) = true) (by simp [b1, b2]), if_neg (show ¬ (n.toNat &&& a.toNat = n.toNat) from fun h => by have := (hs.1 h).1 (by omega); omega)]
      exact (ite_self 1)
    · rw [if_neg (c := (n % 2 == 1 && a % 2 == 0) = true) (by simp [b1, b2])]
      by_cases c : n.toNat / 2 &&& a.toNat / 2 = n.toNat / 2
      · rw [if_pos c, if_pos (hs.2 ⟨fun _ => by omega, c⟩)]
      · rw [if_neg c, if_neg (fun h => c (hs.1 h).2)]
  · rw [if_neg (c := (n % 2 == 1 && a % 2 == 0) = true) (by simp [b1])]
    by_cases c : n.toNat / 2 &&& a.toNat / 2 = n.toNat / 2
    · rw [if_pos c, if_pos (hs.2 ⟨fun h => absurd h (by omega), c⟩)]
    · rw [if_neg c, if_neg (fun h => c (hs.1 h).2)]
theorem prot_key {p : Int} (h : 0 ≤ p) : (protE p == 0) = decide (p ≤ 7) := by
  unfold protE
  by_cases h2 : p ≤ 7
  · rw [if_neg (by simp; omega)]; simp [h2]
  · rw [if_pos (by simp; omega)]; simp [h2]
theorem fl_mu {f al n a w : Int} (h : FlOk f al n a w) (hn : 0 < n) : (w64 (Int.tdiv n 2)).toNat < n.toNat := by
  rw [fl_half (by omega) h.hi]
  omega
theorem FlOk.start {f al : Int} (hf : In64 f) (ha : 0 ≤ al ∧ al ≤ 255) : FlOk f (w64 al) f (w64 al) (if (decide (f < 0)) = true then 1 else 0) := by
  have e : w64 al = al := w64_id (by unfold In64; omega)
  rw [e]
  refine ⟨hf.1, hf.2, ha.1, ha.2, ?_⟩
  unfold flagsE
  by_cases h : f < 0
  · rw [if_pos (c := decide (f < 0) = true) (by simpa using h), if_pos (c := (decide (f < 0) || bits .andNot .i64 f al != 0) = true) (by simp [h])]
    split <;> rfl
  · obtain ⟨m, rfl⟩ : ∃ m : Nat, f = m := ⟨f.toNat, by omega⟩
    obtain ⟨b, rfl⟩ : ∃ b : Nat, al = b := ⟨al.toNat, by omega⟩
    have k := andNot_zero m b (by have := hf.2; omega) (by omega)
    simp only [Int.toNat_natCast]
    by_cases c : m &&& b = m
    · rw [if_pos c, if_neg (by simp), if_neg (by rw [k.2 c]; simp [h])]
    · rw [if_neg c, if_pos (by simp; exact .inr fun h => c (k.1 h))]
theorem FlOk.out {f al n a w : Int} (h : FlOk f al n a w) (hn : ¬ 0 < n) : flagsE f al = w := by
  rw [← h.eq, if_pos]
  have : n.toNat = 0 := by omega
  rw [this]
  simp
end Go.Proofs.Ytbcicjmepojlnaa.Eng
