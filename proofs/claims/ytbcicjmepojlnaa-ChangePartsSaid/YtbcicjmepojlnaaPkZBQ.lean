/- Texts of this work, laid together: symbolic execution over the model, contracts of the program's functions, what they come to; conditions: as each says. -/
import Derived.Test.YtbcicjmepojlnaaPkZBH
/- The break: moved twice, back, step by step; no condition but those typed. -/
namespace Go.Proofs.Ytbcicjmepojlnaa.Eng
open Go Go.RowKit
set_option autoImplicit false
set_option linter.unusedSimpArgs false
set_option linter.unusedVariables false
set_option linter.unusedSectionVars false
theorem kept_er0 {now : List Ar} {v : Int} (h : (keptN now v).er = 0) : now.length ≤ 24 ∧ keptN now v = okA v ∧ ∀ l, keptL l now = now := by
  cases hd : decide ((24 : Int) < (now.length : Int)) with
  | true => rw [(kept_no (was := []) hd).2] at h; cases h
  | false =>
    have := of_decide_eq_false hd
    exact ⟨by omega, (kept_yes (was := []) hd).2, fun l => (kept_yes (v := 0) (was := l) hd).1⟩
structure BrkOk (l : List Ar) (m w : Int) : Prop where
  may : mayS l = true
  br : BrOk m
  c : (w = 0 ∧ brkN l m w = okA m ∧ brkL l m w = l ∧ brkV l m w = m) ∨ (w ≠ 0 ∧ BrOk w ∧ (upG m < upG w → fitsL l (upG m) (w64 (upG w - upG m)) = true) ∧ (brkK l m w).length ≤ 24 ∧ brkN l m w = okA w ∧ brkL l m w = brkK l m w ∧ brkV l m w = w)
theorem brk_yes {l : List Ar} {m w : Int} (h : (brkN l m w).er = 0) : BrkOk l m w := by
  have he : brkE l m w = 0 := by
    unfold brkN at h
    by_cases hb : (brkE l m w != 0) = true
    · rw [if_pos hb] at h; exact h
    · simpa using hb
  have h0 : mayS l = true ∧ brkR m = true := by
    unfold brkE at he
    cases h1 : mayS l with
    | false => rw [h1] at he; cases he
    | true =>
      cases h2 : brkR m with
      | false => rw [h1, h2] at he; cases he
      | true => exact ⟨rfl, rfl⟩
  obtain ⟨hm, hb⟩ := h0
  refine ⟨hm, (br_iff m).1 hb, ?_⟩
  cases hw : (w == 0) with
  | true =>
    obtain ⟨_, k1, k2, k3, _⟩ := bk_0 hm hb hw
    exact .inl ⟨beq_yes hw, k1, k2, k3⟩
  | false =>
    have h1 : brkR w = true ∧ (upG m < upG w → fitsL l (upG m) (w64 (upG w - upG m)) = true) := by
      unfold brkE at he
      rw [hm, hb, hw] at he
      cases h2 : brkR w with
      | false => rw [h2] at he; cases he
      | true =>
        refine ⟨rfl, fun hlt => ?_⟩
        rw [h2, decide_eq_true hlt] at he
        cases h3 : fitsL l (upG m) (w64 (upG w - upG m)) with
        | true => rfl
        | false => rw [h3] at he; cases he
    obtain ⟨g1, g2, g3⟩ := bk_go hm hb hw he
    rw [g1] at h
    obtain ⟨q1, q2, q3⟩ := kept_er0 h
    rw [q2] at g1 g3
    rw [q3] at g2
    exact .inr ⟨beq_no hw, (br_iff w).1 h1.1, h1.2, q1, g1, g2, g3⟩
theorem mv_rt {l : List Ar} (hl : Rt l) {m w : Int} (hm : BrOk m) (hw : BrOk w) : Rt (brkK l m w) := by
  obtain ⟨u1, u2, u3⟩ := up_end hm
  obtain ⟨v1, v2, v3⟩ := up_end hw
  unfold brkK brkMv
  rw [u1, v1]
  split
  · rename_i h
    have h := of_decide_eq_true h
    exact (put_spec hl (brk_fo u2 (by omega) (by omega))).1
  · split
    · exact (cut_spec hl (by unfold In64; omega) (by unfold In64; omega)).1
    · exact hl
theorem brk_may {l : List Ar} {m w : Int} (h : (brkN l m w).er = 0) : mayS (brkL l m w) = true ∧ BrOk (brkV l m w) := by
  have k := brk_yes h
  obtain ⟨hrt, h24⟩ := mayS_rt k.may
  rcases k.c with ⟨h1, h2, h3, h4⟩ | ⟨h1, h2, h3, h4, h5, h6, h7⟩
  · rw [h3, h4]
    exact ⟨k.may, k.br⟩
  · rw [h6, h7]
    exact ⟨rt_mayS (mv_rt hrt k.br h2) h4, h2⟩
/-! ### Step by step -/
end Go.Proofs.Ytbcicjmepojlnaa.Eng
