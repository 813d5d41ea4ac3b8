/- One slot, born and let go over and over; no condition but those typed. -/
import Derived.Test.YtjlgeoaomegbmaaArena2
namespace Go.Proofs.Ytjlgeoaomegbmaa.Eng
open Go Go.RowKit
set_option autoImplicit false
set_option linter.unusedSimpArgs false
set_option linter.unusedVariables false

def onceL (s : Int) (i : Nat) : List St := putSt (List.replicate 10 st0) s ⟨i, false⟩
def onceH (s : Int) (i : Nat) : Int := if i = 0 then 0 else i * 65536 + s
theorem all_dead {l : List St} (h : ∀ x ∈ l, x.live = false) (k : Int) : vAt l k = false := by
  unfold vAt
  rw [List.getD_eq_getElem?_getD]
  cases hk : l[(k - 1).toNat]? with
  | none => rfl
  | some x => exact h x (List.mem_of_getElem? hk)
theorem dead_out {l : List St} (h : ∀ x ∈ l, x.live = false) : ∀ i, outL l i = []
  | 0 => rfl
  | i + 1 => by rw [outL_succ, dead_out h i, all_dead h, if_neg (by simp)]; rfl
theorem once_dead (s : Int) (i : Nat) : ∀ x ∈ onceL s i, x.live = false := by
  intro x hx
  unfold onceL putSt at hx
  rcases List.mem_or_eq_of_mem_set hx with h | h
  · rw [List.eq_of_mem_replicate h]; rfl
  · rw [h]
theorem once_len (s : Int) (i : Nat) : (onceL s i).length = 10 := by
  unfold onceL
  rw [putSt_len]
  rfl
theorem once_zero {s : Int} (h1 : 1 ≤ s) (h2 : s ≤ 10) : onceL s 0 = List.replicate 10 st0 := by
  unfold onceL putSt
  apply List.ext_getElem?
  intro k
  rw [List.getElem?_set]
  split
  · rename_i e
    rw [if_pos (by rw [List.length_replicate]; omega), List.getElem?_replicate, if_pos (by omega)]
    rfl
  · rfl
theorem right_of {l : List St} {slot h : Int} (hs : slotP h = slot) : rightP l h = (hasSl l.length slot && vAt l slot && (handleP l slot == h)) := by
  unfold rightP
  rw [hs]
theorem once_key {s : Int} (h1 : 1 ≤ s) (h2 : s ≤ 10) {i : Nat} (hi : i < 200) :
    bornV (onceL s i) s = onceH s (i + 1) ∧ onceH s i < onceH s (i + 1) ∧ bornD (onceL s i) false s = false ∧ rightP (bornL (onceL s i) s) (onceH s (i + 1)) = true ∧ rightP (bornL (onceL s i) s) (onceH s i) = false ∧
    slotP (onceH s (i + 1)) = s ∧ diedL (bornL (onceL s i) s) (onceH s (i + 1)) = onceL s (i + 1) ∧ diedD (bornL (onceL s i) s) false (onceH s (i + 1)) = false ∧ rightP (onceL s (i + 1)) (onceH s (i + 1)) = false := by
  have hh : hasSl ((onceL s i).length : Int) s = true := by rw [once_len]; unfold hasSl; simp; omega
  have hr : hasSl (((List.replicate 10 st0).length : Nat) : Int) s = true := by rw [List.length_replicate]; unfold hasSl; simp; omega
  obtain ⟨g1, v1⟩ := putSt_at (l := List.replicate 10 st0) ⟨i, false⟩ hr (by simp)
  have g1' : gAt (onceL s i) s = i := g1
  have v1' : vAt (onceL s i) s = false := v1
  have hw : w64 (gAt (onceL s i) s + 1) = ((i + 1 : Nat) : Int) := by rw [g1', w64_id (by unfold In64; omega)]; omega
  have hb : bornL (onceL s i) s = putSt (List.replicate 10 st0) s ⟨((i + 1 : Nat) : Int), true⟩ := by
    unfold bornL
    rw [if_pos hh, hw]
    unfold onceL
    rw [putSt_two]
  obtain ⟨g2, v2⟩ := putSt_at (l := List.replicate 10 st0) ⟨((i + 1 : Nat) : Int), true⟩ hr (by simp)
  rw [← hb] at g2 v2
  simp only at g2 v2
  have hv := (handle_val (l := bornL (onceL s i) s) (slot := s) (by rw [g2]; omega) (by rw [g2]; omega) (by omega) (by omega)).1
  rw [g2] at hv
  have e1 : onceH s (i + 1) = ((i + 1 : Nat) : Int) * 65536 + s := by unfold onceH; rw [if_neg (by omega)]
  have hs : slotP (onceH s (i + 1)) = s := by
    rw [(slotP_eq _).2.2.2 (by rw [e1]; omega), e1]
    omega
  have hbl : (bornL (onceL s i) s).length = 10 := by rw [bornL_len, once_len]
  have r1 : rightP (bornL (onceL s i) s) (onceH s (i + 1)) = true := by
    rw [right_of hs, hbl, v2, hv, e1]
    have := hh
    rw [once_len] at this
    rw [this]
    simp
  have hd : diedL (bornL (onceL s i) s) (onceH s (i + 1)) = onceL s (i + 1) := by
    unfold diedL
    rw [if_pos r1, hs, g2, hb, putSt_two]
    rfl
  refine ⟨?_, ?_, ?_, r1, ?_, hs, hd, ?_, ?_⟩
  · unfold bornV
    rw [if_pos hh, hv, e1]
  · rw [e1]
    unfold onceH
    split
    · omega
    · omega
  · unfold bornD
    rw [if_pos hh, v1']
    rfl
  · by_cases h0 : i = 0
    · subst h0
      have : slotP (onceH s 0) = 0 := by unfold onceH; rw [if_pos rfl]; decide +kernel
      rw [right_of this]
      have : hasSl ((bornL (onceL s 0) s).length : Int) 0 = false := by unfold hasSl; simp
      rw [this]
      rfl
    · have e0 : onceH s i = (i : Int) * 65536 + s := by unfold onceH; rw [if_neg h0]
      have hs0 : slotP (onceH s i) = s := by
        rw [(slotP_eq _).2.2.2 (by rw [e0]; omega), e0]
        omega
      rw [right_of hs0, hv, e0]
      have : ((((i + 1 : Nat) : Int) * 65536 + s) == ((i : Int) * 65536 + s)) = false := by
        rw [beq_eq_false_iff_ne]
        omega
      rw [this, Bool.and_false]
  · unfold diedD
    rw [if_pos r1]
  · rw [right_of hs, all_dead (once_dead s (i + 1))]
    simp
theorem diedL_len (l : List St) (h : Int) : (diedL l h).length = l.length := by
  unfold diedL
  split
  · exact putSt_len _ _ _
  · rfl
theorem once_n0 {n : Int} (h : 0 ≤ n ∧ n ≤ 255) : (((0 : Nat) : Nat) : Int) ≤ Int.tmod n 200 := by
  rw [Int.tmod_eq_emod_of_nonneg h.1]
  omega
theorem once_w {n : Int} (h : 0 ≤ n ∧ n ≤ 255) : IntKind.i64.wrap (Int.tmod n 200) = Int.tmod n 200 := by
  have e := Int.tmod_eq_emod_of_nonneg (b := 200) h.1
  rw [e]
  exact w64_id (by unfold In64; omega)
theorem once_s {z : Int} (h : 0 ≤ z ∧ z ≤ 255) : 1 ≤ IntKind.i64.wrap (1 + IntKind.i64.wrap (Int.tmod z 10)) ∧ IntKind.i64.wrap (1 + IntKind.i64.wrap (Int.tmod z 10)) ≤ 10 := by
  rw [Int.tmod_eq_emod_of_nonneg h.1]
  have e1 : w64 (z % 10) = z % 10 := w64_id (by unfold In64; omega)
  have e2 : w64 (1 + z % 10) = 1 + z % 10 := w64_id (by unfold In64; omega)
  unfold w64 at e1 e2
  rw [e1, e2]
  omega
theorem once_step {n : Int} (h : 0 ≤ n ∧ n ≤ 255) {i : Nat} (hi : (i : Int) < Int.tmod n 200) : i + 1 < 200 ∧ ((i + 1 : Nat) : Int) ≤ Int.tmod n 200 := by
  rw [Int.tmod_eq_emod_of_nonneg h.1] at hi ⊢
  omega
end Go.Proofs.Ytjlgeoaomegbmaa.Eng
