/- The program's arenas and the reference's: alike in whatever is born, dies, is touched; no condition but those typed. -/
import Derived.Test.YtjlgeoaomegbmaaArena2
namespace Go.Proofs.Ytjlgeoaomegbmaa.Eng
open Go Go.RowKit
set_option autoImplicit false
set_option linter.unusedSimpArgs false
set_option linter.unusedVariables false

def rightR (l : List St) (h : Int) : Bool := (List.range l.length).any fun i => vAt l (i + 1) && (handleR l (i + 1) == h)
/-- After k births at most. -/
structure Fine (l : List St) (k : Nat) : Prop where
  len : l.length ≤ 1000
  g : ∀ x ∈ l, 0 ≤ x.g ∧ x.g ≤ k
theorem Fine.at {l : List St} {k : Nat} (h : Fine l k) (slot : Int) : 0 ≤ gAt l slot ∧ gAt l slot ≤ k := by
  unfold gAt
  rw [List.getD_eq_getElem?_getD]
  cases hk : l[(slot - 1).toNat]? with
  | none => exact ⟨Int.le_refl _, by simp [st0]⟩
  | some x => exact h.g x (List.mem_of_getElem? hk)
theorem Fine.put {l : List St} {k : Nat} (h : Fine l k) (slot g : Int) (v : Bool) (h1 : 0 ≤ g) (h2 : g ≤ ((k + 1 : Nat) : Int)) : Fine (putSt l slot ⟨g, v⟩) (k + 1) := by
  refine ⟨by rw [putSt_len]; exact h.len, fun x hx => ?_⟩
  unfold putSt at hx
  rcases List.mem_or_eq_of_mem_set hx with hm | rfl
  · have := h.g x hm
    omega
  · exact ⟨h1, h2⟩
theorem Fine.up {l : List St} {k : Nat} (h : Fine l k) : Fine l (k + 1) := ⟨h.len, fun x hx => by have := h.g x hx; omega⟩
theorem Fine.born {l : List St} {k : Nat} (h : Fine l k) (hk : k ≤ 1000) (slot : Int) : Fine (bornL l slot) (k + 1) := by
  unfold bornL
  split
  · have := h.at slot
    rw [w64_id (by unfold In64; omega)]
    exact h.put slot _ true (by omega) (by omega)
  · exact h.up
theorem Fine.died {l : List St} {k : Nat} (h : Fine l k) (x : Int) : Fine (diedL l x) (k + 1) := by
  unfold diedL
  split
  · have := h.at (slotP x)
    exact h.put _ _ false (by omega) (by omega)
  · exact h.up
theorem Fine.handles {l : List St} {k : Nat} (h : Fine l k) (hk : k ≤ 1000) {slot : Int} (h3 : 0 ≤ slot) (h4 : slot < 65536) : handleP l slot = gAt l slot * 65536 + slot ∧ handleR l slot = gAt l slot * 65536 + slot := by
  have := h.at slot
  exact handle_val (by omega) (by omega) h3 h4
theorem right_eq {l : List St} {k : Nat} (h : Fine l k) (hk : k ≤ 1000) (x : Int) : rightP l x = rightR l x := by
  rw [Bool.eq_iff_iff]
  unfold rightP rightR
  rw [List.any_eq_true]
  simp only [Bool.and_eq_true, beq_iff_eq, List.mem_range]
  have hlen := h.len
  constructor
  · rintro ⟨⟨h1, h2⟩, h3⟩
    have hh := has_lt h1 h.len
    have hs := slotP_eq x
    refine ⟨(slotP x - 1).toNat, by omega, ?_, ?_⟩
    · rw [show (((slotP x - 1).toNat : Nat) : Int) + 1 = slotP x by omega]; exact h2
    · rw [show (((slotP x - 1).toNat : Nat) : Int) + 1 = slotP x by omega, (h.handles hk (by omega) hs.2.2.1).2, ← (h.handles hk (by omega) hs.2.2.1).1]
      exact h3
  · rintro ⟨i, h1, h2, h3⟩
    have hv := h.handles hk (slot := (i : Int) + 1) (by omega) (by omega)
    rw [hv.2] at h3
    have hg := h.at ((i : Int) + 1)
    have hs : slotP x = (i : Int) + 1 := by
      rw [(slotP_eq x).2.2.2 (by omega), ← h3]
      omega
    rw [hs]
    refine ⟨⟨?_, h2⟩, ?_⟩
    · unfold hasSl
      simp
      omega
    · rw [hv.1]; exact h3
theorem birth_eq {l : List St} {k : Nat} (h : Fine l k) (hk : k ≤ 999) (slot : Int) : bornV l slot = birthV l slot := by
  unfold bornV birthV
  split
  · rename_i hc
    have hh := has_lt hc h.len
    have hlen := h.len
    have hv := (h.born (by omega) slot).handles (by omega) (slot := slot) (by omega) (by omega)
    rw [hv.1, hv.2]
  · rfl
theorem fine_new (n : Nat) (hn : n ≤ 1000) : Fine (List.replicate n st0) 0 := ⟨by rw [List.length_replicate]; exact hn, fun x hx => by rw [List.eq_of_mem_replicate hx]; exact ⟨Int.le_refl _, Int.le_refl _⟩⟩
/-- The live handles, one behind the other. -/
theorem outL_app (l : List St) : ∀ (i j : Nat), ∃ r, outL l (i + j) = outL l i ++ r
  | i, 0 => ⟨[], by simp⟩
  | i, j + 1 => by
    obtain ⟨r, hr⟩ := outL_app l i j
    refine ⟨r ++ (if vAt l (((i + j : Nat) : Int) + 1) = true then [handleP l (((i + j : Nat) : Int) + 1)] else []), ?_⟩
    rw [← Nat.add_assoc, outL_succ, hr, List.append_assoc]
theorem outL_at {l : List St} {i : Nat} (h : i < l.length) (hv : vAt l (i + 1) = true) : (outL l i).length < (outL l l.length).length ∧ (outL l l.length)[(outL l i).length]? = some (handleP l (i + 1)) := by
  obtain ⟨r, hr⟩ := outL_app l (i + 1) (l.length - (i + 1))
  rw [show i + 1 + (l.length - (i + 1)) = l.length by omega, outL_succ, hv, if_pos rfl] at hr
  rw [hr]
  refine ⟨by simp only [List.length_append, List.length_cons, List.length_nil]; omega, ?_⟩
  rw [List.append_assoc, List.getElem?_append_right (Nat.le_refl _), Nat.sub_self]
  rfl
theorem right_handle {l : List St} {k : Nat} (h : Fine l k) (hk : k ≤ 1000) {i : Nat} (hi : i < l.length) (hv : vAt l (i + 1) = true) : rightP l (handleP l (i + 1)) = true ∧ handleP l (i + 1) = handleR l (i + 1) := by
  have hlen := h.len
  have hh := h.handles hk (slot := (i : Int) + 1) (by omega) (by omega)
  refine ⟨?_, by rw [hh.1, hh.2]⟩
  rw [right_eq h hk]
  unfold rightR
  rw [List.any_eq_true]
  exact ⟨i, List.mem_range.2 hi, by rw [hv, hh.1, hh.2]; simp⟩
def deathL (l : List St) (h : Int) : List St := if rightR l h = true then putSt l (slotR h) ⟨gAt l (slotR h), false⟩ else l
def deathD (l : List St) (d : Bool) (h : Int) : Bool := if rightR l h = true then d else true
theorem death_eq {l : List St} {k : Nat} (h : Fine l k) (hk : k ≤ 1000) (x : Int) (d : Bool) : deathL l x = diedL l x ∧ deathD l d x = diedD l d x := by
  unfold deathL deathD diedL diedD
  rw [right_eq h hk, (slotP_eq x).1]
  exact ⟨rfl, rfl⟩
theorem rightR_has {l : List St} {k : Nat} (h : Fine l k) (hk : k ≤ 1000) {x : Int} (hr : rightR l x = true) : hasSl l.length (slotR x) = true := by
  rw [← right_eq h hk] at hr
  rw [← (slotP_eq x).1]
  exact right_has hr
theorem has_of {l : List St} {slot : Int} (h1 : decide (slot < 1) = false) (h2 : decide ((l.length : Int) < slot) = false) : hasSl l.length slot = true := by
  unfold hasSl
  simp at h1 h2 ⊢
  omega
theorem has_not1 {l : List St} {slot : Int} (h1 : decide (slot < 1) = true) : hasSl l.length slot = false := by
  unfold hasSl
  simp at h1 ⊢
  omega
theorem has_not2 {l : List St} {slot : Int} (h1 : decide ((l.length : Int) < slot) = true) : hasSl l.length slot = false := by
  unfold hasSl
  simp at h1 ⊢
  omega
theorem birth_g {l : List St} {slot : Int} (h : hasSl l.length slot = true) (hl : l.length ≤ 1000) : putCells (encG l) ((IntKind.i64.wrap (slot - 1)).toNat * 1) [.v (.int .i64 (IntKind.i64.wrap (gAt l slot + 1)))] = encG (bornL l slot) := by
  rw [putG h hl _ true]
  unfold bornL
  rw [if_pos h]
theorem birth_v {l : List St} {slot : Int} (h : hasSl l.length slot = true) (hl : l.length ≤ 1000) : putCells (encV l) ((IntKind.i64.wrap (slot - 1)).toNat * 1) [.v (.bool true)] = encV (bornL l slot) := by
  rw [putV h hl (w64 (gAt l slot + 1)) true]
  unfold bornL
  rw [if_pos h]
theorem rightR_yes {l : List St} {i : Nat} {h : Int} (hi : i < l.length) (hv : vAt l (i + 1) = true) (he : handleR l (i + 1) = h) : rightR l h = true := by
  unfold rightR
  rw [List.any_eq_true]
  exact ⟨i, List.mem_range.2 hi, by rw [hv, he]; simp⟩
theorem rightR_no {l : List St} {h : Int} (hn : ∀ i : Nat, i < l.length → (vAt l (i + 1) && (handleR l (i + 1) == h)) = false) : rightR l h = false := by
  cases hr : rightR l h with
  | false => rfl
  | true =>
    unfold rightR at hr
    rw [List.any_eq_true] at hr
    obtain ⟨i, hi, h2⟩ := hr
    rw [hn i (List.mem_range.1 hi)] at h2
    cases h2
theorem hasN_succ {l : List St} {i : Nat} (h : i < l.length) (hl : l.length ≤ 1000) : hasSl l.length (IntKind.i64.wrap ((i : Int) + 1)) = true ∧ IntKind.i64.wrap ((i : Int) + 1) = (i : Int) + 1 := by
  have e : w64 ((i : Int) + 1) = (i : Int) + 1 := w64_id (by unfold In64; omega)
  unfold w64 at e
  rw [e]
  unfold hasSl
  simp
  omega
theorem rightR_next {l : List St} {h0 : Int} {i : Nat} (h : ∀ j : Nat, j < i → (vAt l (j + 1) && (handleR l (j + 1) == h0)) = false) (hi : (vAt l (i + 1) && (handleR l (i + 1) == h0)) = false) :
    ∀ j : Nat, j < i + 1 → (vAt l (j + 1) && (handleR l (j + 1) == h0)) = false := by
  intro j hj
  by_cases hji : j = i
  · subst hji; exact hi
  · exact h j (by omega)
theorem encG_map : ∀ l : List St, encG l = l.map fun s => C.v (.int .i64 s.g)
  | [] => rfl
  | x :: r => by
    have := encG_map r
    unfold encG at this ⊢
    rw [List.flatMap_cons, this]
    rfl
theorem encG_same {l : List St} {slot : Int} (h : hasSl l.length slot = true) (hl : l.length ≤ 1000) (v : Bool) : encG l = encG (putSt l slot ⟨gAt l slot, v⟩) := by
  obtain ⟨h1, h2, h3, h4⟩ := has_lt h hl
  rw [encG_map, encG_map]
  unfold putSt
  rw [List.map_set]
  apply List.ext_getElem?
  intro k
  rw [List.getElem?_set]
  split
  · rename_i e
    subst e
    rw [if_pos (by rw [List.length_map]; omega), List.getElem?_map, h4]
    rfl
  · rfl
theorem sr_vN {l : List St} {i : Nat} (h : i < l.length) : (encV l)[((i : Nat) : Int).toNat * 1]? = some (.v (.bool (vAt l (i + 1)))) := by
  have e : (((i : Int) + 1 - 1).toNat) = i := by omega
  have h2 : l[i]? = some (l.getD i st0) := by rw [List.getD_eq_getElem?_getD, List.getElem?_eq_getElem h]; rfl
  rw [Int.toNat_natCast]
  have := enc_get (f := fun s : St => [C.v (.bool s.live)]) (z := 1) (fun _ => rfl) l i _ 0 h2 (by decide)
  unfold vAt
  rw [e]
  exact this
theorem ixN {l : List St} {i : Nat} (h : i < l.length) : 0 < 1 ∧ 0 ≤ ((i : Nat) : Int) ∧ ((i : Nat) : Int) < (l.length : Int) := by omega
end Go.Proofs.Ytjlgeoaomegbmaa.Eng
