/- What the loops of the laws of layer 6 come to, in plain words; no condition. -/
import Derived.Test.YtjlgeoaomegbmaaArPure
import Derived.Test.YtjlgeoaomegbmaaEng17
namespace Go.Proofs.Ytjlgeoaomegbmaa.Eng
open Go Go.RowKit
set_option autoImplicit false

def bitM : Nat → Int
  | 0 => 1
  | 1 => 2
  | 2 => 4
  | _ => 8
def wantB (p k b : Int) : Bool := Int.tmod (w64 (Int.tdiv k b)) 2 == 1 && bits .and .i64 p b == 0
def want0 (k : Int) : Bool := decide (k ≥ 1) && decide (k ≤ 7)
def wantM (p k : Int) : Nat → Bool
  | 0 => want0 k
  | 1 => want0 k && !wantB p k 1
  | 2 => want0 k && !wantB p k 1 && !wantB p k 2
  | _ => want0 k && !wantB p k 1 && !wantB p k 2 && !wantB p k 4
theorem want_step (p k : Int) (s : Nat) (h : bitM s ≤ 4) : wantM p k (s + 1) = (wantM p k s && !wantB p k (bitM s)) ∧ bitM (s + 1) = bitM s * 2 ∧ bitM s ≠ 0 ∧ s < 3 := by
  match s with
  | 0 => exact ⟨rfl, rfl, by decide, by omega⟩
  | 1 => exact ⟨rfl, rfl, by decide, by omega⟩
  | 2 => exact ⟨rfl, rfl, by decide, by omega⟩
  | s + 3 => exact absurd h (by show ¬ (8 : Int) ≤ 4; omega)
theorem bit_pos (s : Nat) : 0 ≤ bitM s := by
  unfold bitM
  split <;> omega
theorem want_end (p k : Int) (s : Nat) (h : ¬ bitM s ≤ 4) : wantM p k s = wantM p k 3 := by
  match s with
  | 0 => exact absurd (show (1 : Int) ≤ 4 by omega) h
  | 1 => exact absurd (show (2 : Int) ≤ 4 by omega) h
  | 2 => exact absurd (show (4 : Int) ≤ 4 by omega) h
  | s + 3 => rfl
/-- 'and' of numbers of 64 bits, of which the other one is below 8. -/
theorem and_low (p : Int) (m : Nat) (hm : m < 8) : bits .and .i64 p m = ((p % 8).toNat &&& m : Nat) := by
  have hm' : (BitVec.ofInt 64 (m : Int)).toNat = m := by
    rw [BitVec.toNat_ofInt]
    show ((m : Int) % ((2 ^ 64 : Nat) : Int)).toNat = m
    omega
  have h0 : (BitVec.ofInt 64 p &&& BitVec.ofInt 64 m).toNat = (p % 8).toNat &&& m := by
    rw [BitVec.toNat_and, hm', BitVec.toNat_ofInt]
    have h1 : (p % ((2 ^ 64 : Nat) : Int)).toNat &&& m < 8 := Nat.lt_of_le_of_lt Nat.and_le_right hm
    have h2 := Nat.and_mod_two_pow (n := 3) (a := (p % ((2 ^ 64 : Nat) : Int)).toNat) (b := m)
    rw [Nat.mod_eq_of_lt (show _ < 2 ^ 3 from h1)] at h2
    rw [h2, Nat.mod_eq_of_lt (show m < 2 ^ 3 from hm)]
    congr 1
    omega
  show IntKind.i64.wrap ((BitVec.ofInt 64 p &&& BitVec.ofInt 64 m).toNat : Nat) = _
  rw [h0, IntKind.wrap_i64]
  have : (p % 8).toNat &&& m ≤ m := Nat.and_le_right
  omega
theorem may_tab : ∀ m q : Fin 8, (1 ≤ m.val) → ((q.val &&& m.val) == m.val) = (!(m.val / 1 % 2 == 1 && (q.val &&& 1) == 0) && !(m.val / 2 % 2 == 1 && (q.val &&& 2) == 0) && !(m.val / 4 % 2 == 1 && (q.val &&& 4) == 0)) := by decide
theorem div_tab : ∀ m : Fin 8, (Int.tmod (w64 (Int.tdiv (m.val : Int) 1)) 2 == 1) = (m.val / 1 % 2 == 1) ∧ (Int.tmod (w64 (Int.tdiv (m.val : Int) 2)) 2 == 1) = (m.val / 2 % 2 == 1) ∧ (Int.tmod (w64 (Int.tdiv (m.val : Int) 4)) 2 == 1) = (m.val / 4 % 2 == 1) := by decide +kernel
theorem nat_beq (a b : Nat) : ((a : Int) == (b : Int)) = (a == b) := by
  rw [Bool.eq_iff_iff, beq_iff_eq, beq_iff_eq]
  omega
theorem may_key (a : Ar) (k : Int) : mayA a k = wantM a.p k 3 := by
  unfold mayA wantM want0 wantB
  by_cases h : 1 ≤ k ∧ k ≤ 7
  · obtain ⟨m, rfl⟩ : ∃ m : Nat, k = m := ⟨k.toNat, by omega⟩
    have e0 := and_low a.p m (by omega)
    have e1 := and_low a.p 1 (by omega)
    have e2 := and_low a.p 2 (by omega)
    have e4 := and_low a.p 4 (by omega)
    have h8 : (a.p % 8).toNat < 8 := by omega
    have t := may_tab ⟨m, by omega⟩ ⟨_, h8⟩ (by show 1 ≤ m; omega)
    obtain ⟨d1, d2, d4⟩ := div_tab ⟨m, by omega⟩
    simp only at t d1 d2 d4
    have e1' : bits .and .i64 a.p 1 = (((a.p % 8).toNat &&& 1 : Nat) : Int) := e1
    have e2' : bits .and .i64 a.p 2 = (((a.p % 8).toNat &&& 2 : Nat) : Int) := e2
    have e4' : bits .and .i64 a.p 4 = (((a.p % 8).toNat &&& 4 : Nat) : Int) := e4
    have z : ∀ x : Nat, ((x : Int) == 0) = (x == 0) := fun x => nat_beq x 0
    rw [e0, e1', e2', e4', d1, d2, d4, nat_beq, z, z, z, t]
    have w : (decide ((m : Int) ≥ 1) && decide ((m : Int) ≤ 7)) = true := by simp; omega
    rw [w]
    simp only [Bool.true_and]
  · rw [show (decide (k ≥ 1) && decide (k ≤ 7)) = false by simp; omega]
    rfl
end Go.Proofs.Ytjlgeoaomegbmaa.Eng
