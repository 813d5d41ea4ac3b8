/- Texts of this work, laid together: symbolic execution over the model, contracts of the program's functions, what they come to; conditions: as each says. -/
import Derived.Test.YtbcicjmepojlnaaPkBaseAH
import Derived.Test.YtbcicjmepojlnaaPkBaseAJ
/- Cuts, puts, sets, parts of right lists, page by page; no condition but those typed. -/
namespace Go.Proofs.Ytbcicjmepojlnaa.Eng
open Go Go.RowKit
set_option autoImplicit false
set_option linter.unusedSimpArgs false
set_option linter.unusedVariables false

theorem floorA_eq' {n : Int} (h : In64 n) : floorA n = n - n % 4096 := by
  unfold In64 at h
  unfold floorA
  rcases (by omega : n < 0 ∨ 0 ≤ n) with h0 | h0
  · rw [tmod_neg h0, w64_id (n := -(-n % 4096) + 4096) (by unfold In64; omega), tmod_pos (by omega), w64_id (by unfold In64; omega)]
    omega
  · rw [tmod_pos h0, w64_id (n := n % 4096 + 4096) (by unfold In64; omega), tmod_pos (by omega), w64_id (by unfold In64; omega)]
    omega
theorem toI_eq {hi : Int} (h : In64 hi) : (hi < 2097152 → toI hi = hi + (-hi) % 4096) ∧ (¬ hi < 2097152 → toI hi = hi) := by
  unfold In64 at h
  unfold toI
  constructor
  · intro h1
    rw [if_pos h1]
    by_cases hm : hi = -9223372036854775808
    · subst hm
      decide +kernel
    · rw [w64_id (n := 0 - hi) (by unfold In64; omega), floorA_eq' (by unfold In64; omega), w64_id (by unfold In64; omega)]
      have : (0 - hi) = -hi := by omega
      rw [this]
      omega
  · intro h1
    rw [if_neg h1]

/-! ### Parts -/
/-- What is a part of an area. -/
structure SubA (a' a : Ar) : Prop where
  fo : Fo a'
  s : a.s ≤ a'.s
  e : a'.e ≤ a.e
  x : ∀ x, ext a' x = ext a x
theorem part_spec {a : Ar} (h : Fo a) (lo hi : Int) : (hasPart a lo hi = true → SubA (partA a lo hi) a ∧ ∀ x, x % 4096 = 0 → (inA (partA a lo hi) x ↔ inA a x ∧ Touch x lo hi)) ∧ (hasPart a lo hi = false → ∀ x, x % 4096 = 0 → inA a x → ¬ Touch x lo hi) := by
  have := h.s0; have := h.e0; have := h.lo; have := h.hi; have := h.lt
  by_cases hc : hi ≤ a.s ∨ lo ≥ a.e ∨ lo ≥ hi
  · have hno : hasPart a lo hi = false := by
      unfold hasPart
      rw [if_pos]
      simp only [Bool.or_eq_true, Bool.not_eq_true', decide_eq_true_eq]
      omega
    refine ⟨fun hp => (by rw [hno] at hp; cases hp), fun _ x hx hin ht => ?_⟩
    have := hin.1; have := hin.2; have := ht.1; have := ht.2.1; have := ht.2.2
    omega
  · have hfm := fo.2 h
    have e1 : fromA a lo = maxI a.s (maxI lo 0 - maxI lo 0 % 4096) := by
      unfold fromA
      rw [floorA_eq' (by unfold maxI In64; split <;> omega)]
    have e2 : toA a hi = minI a.e (if hi > 2097152 then 2097152 else hi + (-hi) % 4096) := by
      unfold toA
      by_cases h2 : hi > 2097152
      · rw [if_pos h2]
        unfold ceilA
        rw [if_pos h2]
      · rw [if_neg h2, ceilA_eq (by omega) (by omega)]
    have hp : hasPart a lo hi = decide (fromA a lo < toA a hi) := by
      have hb : (!formed a || decide (hi ≤ a.s) || decide (lo ≥ a.e) || decide (lo ≥ hi)) = false := by
        have d1 : decide (hi ≤ a.s) = false := decide_eq_false (by omega)
        have d2 : decide (lo ≥ a.e) = false := decide_eq_false (by omega)
        have d3 : decide (lo ≥ hi) = false := decide_eq_false (by omega)
        rw [hfm, d1, d2, d3]
        rfl
      unfold hasPart
      rw [hb, if_neg (by simp), Bool.eq_iff_iff]
      simp only [Bool.not_eq_true', decide_eq_false_iff_not, decide_eq_true_eq]
      omega
    have hin : ∀ x, x % 4096 = 0 → (fromA a lo ≤ x ∧ x < toA a hi ↔ inA a x ∧ Touch x lo hi) := by
      intro x hx
      rw [e1, e2]
      unfold inA Touch maxI minI
      constructor
      · intro hh
        revert hh
        repeat' split
        all_goals omega
      · intro hh
        revert hh
        repeat' split
        all_goals omega
    refine ⟨fun hp' => ?_, fun hp' x hx hi' ht => ?_⟩
    · rw [hp] at hp'
      have hlt := of_decide_eq_true hp'
      have f1 : a.s ≤ fromA a lo := by rw [e1]; unfold maxI; split <;> omega
      have f2 : toA a hi ≤ a.e := by rw [e2]; unfold minI; split <;> omega
      have f3 : fromA a lo % 4096 = 0 := by rw [e1]; unfold maxI; repeat' split
                                            all_goals omega
      have f4 : toA a hi % 4096 = 0 := by rw [e2]; unfold minI; repeat' split
                                          all_goals omega
      have hpa : partA a lo hi = ⟨fromA a lo, toA a hi, a.p, a.sh, a.b, offA a (fromA a lo)⟩ := by
        unfold partA
        rw [if_pos (by rw [hp]; exact hp')]
      rw [hpa]
      refine ⟨⟨fo.1 (formed_sub hfm f1 hlt f2 f3 f4), f1, f2, fun x => ?_⟩, hin⟩
      unfold ext
      simp only [At.mk.injEq, true_and]
      unfold offP
      simp only
      split
      · rfl
      · rename_i hb
        rw [offA_eq hfm (by omega) (by omega), if_neg hb]
        omega
    · rw [hp] at hp'
      have := (hin x hx).2 ⟨hi', ht⟩
      have := of_decide_eq_false hp'
      omega
/-- A function that hands back at most a part of an area: of its pages those of P. -/
def Parts (f : Ar → List Ar) (P : Int → Prop) : Prop := ∀ a, Fo a → (f a = [] ∨ ∃ a', f a = [a'] ∧ SubA a' a) ∧ ∀ x, x % 4096 = 0 → ((∃ a' ∈ f a, inA a' x) ↔ inA a x ∧ P x)
theorem parts_mem {f : Ar → List Ar} {P : Int → Prop} (hf : Parts f P) {a a' : Ar} (ha : Fo a) (h : a' ∈ f a) : SubA a' a := by
  rcases (hf a ha).1 with e | ⟨b, e, hs⟩
  · rw [e] at h; cases h
  · rw [e] at h; rw [List.mem_singleton.1 h]; exact hs
theorem parts_has {f : Ar → List Ar} {P : Int → Prop} (hf : Parts f P) {l : List Ar} (hl : Fm l) {x : Int} {t : At} (hx : x % 4096 = 0) : Has (l.flatMap f) x t ↔ Has l x t ∧ P x := by
  rw [has_flat]
  constructor
  · rintro ⟨a, ha, a', h1, h2, h3⟩
    have fa := fo.1 (hl a ha)
    obtain ⟨g1, g2⟩ := ((hf a fa).2 x hx).1 ⟨a', h1, h2⟩
    exact ⟨⟨a, ha, g1, by rw [← (parts_mem hf fa h1).x]; exact h3⟩, g2⟩
  · rintro ⟨⟨a, ha, h1, h2⟩, hp⟩
    have fa := fo.1 (hl a ha)
    obtain ⟨a', g1, g2⟩ := ((hf a fa).2 x hx).2 ⟨h1, hp⟩
    exact ⟨a, ha, a', g1, g2, by rw [(parts_mem hf fa g1).x]; exact h2⟩
theorem parts_fm {f : Ar → List Ar} {P : Int → Prop} (hf : Parts f P) {l : List Ar} (hl : Fm l) : Fm (l.flatMap f) := fun b hb => by
  obtain ⟨a, ha, h⟩ := List.mem_flatMap.1 hb
  exact fo.2 (parts_mem hf (fo.1 (hl a ha)) h).fo
theorem parts_one {f : Ar → List Ar} {P : Int → Prop} (hf : Parts f P) {R : Ar → Ar → Prop} {l : List Ar} (hl : Fm l) : ∀ a ∈ l, (f a).Pairwise R := fun a ha => by
  rcases (hf a (fo.1 (hl a ha))).1 with e | ⟨b, e, _⟩
  · rw [e]; exact List.Pairwise.nil
  · rw [e]; exact List.pairwise_singleton _ _
theorem parts_ok {f : Ar → List Ar} {P : Int → Prop} (hf : Parts f P) {l : List Ar} (hl : Ok l) : Ok (l.flatMap f) := by
  refine ⟨parts_fm hf hl.1, List.pairwise_flatMap.2 ⟨parts_one hf hl.1, ?_⟩⟩
  refine List.Pairwise.imp_of_mem ?_ hl.2
  intro a b ha hb hab a' ha' b' hb'
  have h1 := parts_mem hf (fo.1 (hl.1 a ha)) ha'
  have h2 := parts_mem hf (fo.1 (hl.1 b hb)) hb'
  have := h1.e; have := h2.s
  omega
theorem parts_rt {f : Ar → List Ar} {P : Int → Prop} (hf : Parts f P) {l : List Ar} (hl : Rt l) : Rt (l.flatMap f) := by
  refine ⟨parts_fm hf hl.1, List.pairwise_flatMap.2 ⟨parts_one hf hl.1, ?_⟩⟩
  refine List.Pairwise.imp_of_mem ?_ hl.2
  intro a b ha hb hab a' ha' b' hb'
  have fa := fo.1 (hl.1 a ha)
  have fb := fo.1 (hl.1 b hb)
  have h1 := parts_mem hf fa ha'
  have h2 := parts_mem hf fb hb'
  have e1 := h1.e; have e2 := h2.s; have e3 := hab.1
  refine ⟨by omega, ?_⟩
  cases hg : goesA a' b' with
  | false => rfl
  | true =>
    obtain ⟨_, _, k3, k4⟩ := goes_ext.1 hg
    have : goesA a b = true := goes_ext.2 ⟨fa, fb, by omega, by
      have q1 : a'.e = a.e := by omega
      have q2 : b'.s = b.s := by omega
      rw [h1.x, h2.x, q1, q2] at k4
      exact k4⟩
    rw [hab.2] at this
    cases this
/-- Where parts lie. -/
theorem parts_in {f : Ar → List Ar} {P : Int → Prop} (hf : Parts f P) {l : List Ar} (hl : Fm l) {b : Ar} (hb : b ∈ l.flatMap f) : Fo b ∧ P b.s ∧ P (b.e - 4096) := by
  obtain ⟨a, ha, h⟩ := List.mem_flatMap.1 hb
  have fa := fo.1 (hl a ha)
  have hs := parts_mem hf fa h
  have := hs.fo.lt; have := hs.fo.s0; have := hs.fo.e0
  exact ⟨hs.fo, (((hf a fa).2 b.s hs.fo.s0).1 ⟨b, h, by omega, by omega⟩).2, (((hf a fa).2 (b.e - 4096) (by omega)).1 ⟨b, h, by omega, by omega⟩).2⟩
theorem within_parts (lo hi : Int) : Parts (partL lo hi) (fun x => Touch x lo hi) := by
  intro a ha
  obtain ⟨h1, h2⟩ := part_spec ha lo hi
  unfold partL
  cases hp : hasPart a lo hi with
  | true =>
    obtain ⟨g1, g2⟩ := h1 hp
    rw [if_pos rfl]
    refine ⟨.inr ⟨_, rfl, g1⟩, fun x hx => ?_⟩
    rw [← g2 x hx]
    exact ⟨fun ⟨a', h, k⟩ => by rw [List.mem_singleton.1 h] at k; exact k, fun h => ⟨_, List.mem_singleton.2 rfl, h⟩⟩
  | false =>
    rw [if_neg (by simp)]
    exact ⟨.inl rfl, fun x hx => ⟨fun ⟨a', h, _⟩ => (by cases h), fun ⟨k1, k2⟩ => (h2 hp x hx k1 k2).elim⟩⟩
theorem ahead_parts {f : Int} (h0 : f % 4096 = 0) : Parts (aheadA f) (fun x => x < f) := by
  intro a ha
  have := ha.s0; have := ha.e0; have := ha.lo; have := ha.hi; have := ha.lt
  obtain ⟨h1, h2⟩ := part_spec ha 65536 (maxI f 65536)
  unfold aheadA
  by_cases hs : f > a.s
  · have hm : maxI f 65536 = f := by unfold maxI; rw [if_neg (by omega)]
    rw [hm] at h1 h2 ⊢
    have hd : decide (f > a.s) = true := by simpa using hs
    rw [hd, Bool.and_true]
    cases hp : hasPart a 65536 f with
    | true =>
      obtain ⟨g1, g2⟩ := h1 hp
      rw [if_pos rfl]
      refine ⟨.inr ⟨_, rfl, g1⟩, fun x hx => ?_⟩
      have : (∃ a' ∈ [partA a 65536 f], inA a' x) ↔ inA (partA a 65536 f) x := ⟨fun ⟨a', h, k⟩ => by rw [List.mem_singleton.1 h] at k; exact k, fun h => ⟨_, List.mem_singleton.2 rfl, h⟩⟩
      rw [this, g2 x hx]
      unfold Touch inA
      omega
    | false =>
      rw [if_neg (by simp)]
      refine ⟨.inl rfl, fun x hx => ⟨fun ⟨a', h, _⟩ => (by cases h), fun ⟨k1, k2⟩ => (h2 hp x hx k1 ?_).elim⟩⟩
      have := k1.1
      unfold Touch
      omega
  · have hd : decide (f > a.s) = false := by simpa using hs
    rw [hd, Bool.and_false, if_neg (by simp)]
    refine ⟨.inl rfl, fun x hx => ⟨fun ⟨a', h, _⟩ => (by cases h), fun ⟨k1, k2⟩ => ?_⟩⟩
    have := k1.1
    omega
theorem behind_parts {g : Int} (h0 : g % 4096 = 0 ∨ 2097152 ≤ g) : Parts (behindA g) (fun x => g ≤ x) := by
  intro a ha
  have := ha.s0; have := ha.e0; have := ha.lo; have := ha.hi; have := ha.lt
  obtain ⟨h1, h2⟩ := part_spec ha (maxI g 65536) 2097152
  unfold behindA
  by_cases hs : g < a.e
  · have hm : ∀ x, inA a x → x % 4096 = 0 → (Touch x (maxI g 65536) 2097152 ↔ g ≤ x) := by
      intro x hx hx0
      have := hx.1; have := hx.2
      unfold Touch maxI
      split <;> omega
    have hd : decide (g < a.e) = true := by simpa using hs
    rw [hd, Bool.and_true]
    cases hp : hasPart a (maxI g 65536) 2097152 with
    | true =>
      obtain ⟨g1, g2⟩ := h1 hp
      rw [if_pos rfl]
      refine ⟨.inr ⟨_, rfl, g1⟩, fun x hx => ?_⟩
      have : (∃ a' ∈ [partA a (maxI g 65536) 2097152], inA a' x) ↔ inA (partA a (maxI g 65536) 2097152) x := ⟨fun ⟨a', h, k⟩ => by rw [List.mem_singleton.1 h] at k; exact k, fun h => ⟨_, List.mem_singleton.2 rfl, h⟩⟩
      rw [this, g2 x hx]
      exact ⟨fun ⟨k1, k2⟩ => ⟨k1, (hm x k1 hx).1 k2⟩, fun ⟨k1, k2⟩ => ⟨k1, (hm x k1 hx).2 k2⟩⟩
    | false =>
      rw [if_neg (by simp)]
      exact ⟨.inl rfl, fun x hx => ⟨fun ⟨a', h, _⟩ => (by cases h), fun ⟨k1, k2⟩ => (h2 hp x hx k1 ((hm x k1 hx).2 k2)).elim⟩⟩
  · have hd : decide (g < a.e) = false := by simpa using hs
    rw [hd, Bool.and_false, if_neg (by simp)]
    refine ⟨.inl rfl, fun x hx => ⟨fun ⟨a', h, _⟩ => (by cases h), fun ⟨k1, k2⟩ => ?_⟩⟩
    have := k1.2
    omega
/-! ### Cut, Put, Set -/
theorem touch_iff {x lo hi : Int} (hlo : In64 lo) (hhi : In64 hi) (hx : x % 4096 = 0) (hr : 65536 ≤ x ∧ x < 2097152) (h : lo < hi) : (x < floorA lo ∨ toI hi ≤ x) ↔ ¬ Touch x lo hi := by
  rw [floorA_eq' hlo]
  obtain ⟨h1, h2⟩ := toI_eq hhi
  unfold Touch
  by_cases hc : hi < 2097152
  · rw [h1 hc]; omega
  · rw [h2 hc]; omega
theorem floor0 {lo : Int} (h : In64 lo) : floorA lo % 4096 = 0 := by rw [floorA_eq' h]; omega
theorem to0 {hi : Int} (h : In64 hi) : toI hi % 4096 = 0 ∨ 2097152 ≤ toI hi := by
  obtain ⟨h1, h2⟩ := toI_eq h
  by_cases hc : hi < 2097152
  · rw [h1 hc]; omega
  · rw [h2 hc]; omega
theorem floor_lt_to {lo hi : Int} (hlo : In64 lo) (hhi : In64 hi) (h : lo < hi) : floorA lo < toI hi := by
  rw [floorA_eq' hlo]
  obtain ⟨h1, h2⟩ := toI_eq hhi
  by_cases hc : hi < 2097152
  · rw [h1 hc]; omega
  · rw [h2 hc]; omega
/-- Ahead of a place, then what lies in between, then behind another one. -/
theorem three_ok {l m : List Ar} (hl : Ok l) {f g : Int} (hf : f % 4096 = 0) (hg : g % 4096 = 0 ∨ 2097152 ≤ g) (hfg : f ≤ g) (hm : Ok m) (hm2 : ∀ b ∈ m, f ≤ b.s ∧ (b.e ≤ g)) : Ok (aheadL l f ++ m ++ behindL l g) := by
  have pa := ahead_parts hf
  have pb := behind_parts hg
  have oa := parts_ok pa hl
  have ob := parts_ok pb hl
  have ea : ∀ b ∈ aheadL l f, b.e ≤ f := fun b hb => by
    obtain ⟨h1, _, h3⟩ := parts_in pa hl.1 hb
    have := h1.e0
    omega
  have eb : ∀ b ∈ behindL l g, g ≤ b.s := fun b hb => (parts_in pb hl.1 hb).2.1
  refine ⟨fun b hb => ?_, List.pairwise_append.2 ⟨List.pairwise_append.2 ⟨oa.2, hm.2, fun y hy z hz => ?_⟩, ob.2, fun y hy z hz => ?_⟩⟩
  · rcases List.mem_append.1 hb with h | h
    · rcases List.mem_append.1 h with h | h
      · exact oa.1 b h
      · exact hm.1 b h
    · exact ob.1 b h
  · have := ea y hy
    have := (hm2 z hz).1
    omega
  · have := eb z hz
    rcases List.mem_append.1 hy with h | h
    · have := ea y h; omega
    · have := (hm2 y h).2; omega
theorem has_ahead {l : List Ar} (hl : Fm l) {f : Int} (hf : f % 4096 = 0) {x : Int} {t : At} (hx : x % 4096 = 0) : Has (aheadL l f) x t ↔ Has l x t ∧ x < f := parts_has (ahead_parts hf) hl hx
theorem has_behind {l : List Ar} (hl : Fm l) {g : Int} (hg : g % 4096 = 0 ∨ 2097152 ≤ g) {x : Int} {t : At} (hx : x % 4096 = 0) : Has (behindL l g) x t ↔ Has l x t ∧ g ≤ x := parts_has (behind_parts hg) hl hx
theorem has_within {l : List Ar} (hl : Fm l) {lo hi x : Int} {t : At} (hx : x % 4096 = 0) : Has (withinL l lo hi) x t ↔ Has l x t ∧ Touch x lo hi := parts_has (within_parts lo hi) hl hx
theorem cut_spec {l : List Ar} (hl : Rt l) {lo hi : Int} (hlo : In64 lo) (hhi : In64 hi) : Rt (cutL l lo hi) ∧ ∀ x t, x % 4096 = 0 → (Has (cutL l lo hi) x t ↔ Has l x t ∧ ¬ Touch x lo hi) := by
  unfold cutL
  rw [if_pos (rt_iff.2 hl)]
  by_cases h : lo ≥ hi
  · unfold aroundA aroundB
    rw [if_pos h, if_pos h, List.append_nil]
    exact ⟨hl, fun x t hx => ⟨fun h1 => ⟨h1, fun h2 => by have := h2.1; omega⟩, fun h1 => h1.1⟩⟩
  · have hlt : lo < hi := by omega
    unfold aroundA aroundB
    rw [if_neg h, if_neg h]
    have hf := floor0 hlo
    have hg := to0 hhi
    have hfg := floor_lt_to hlo hhi hlt
    have ra := parts_rt (ahead_parts hf) hl
    have rb := parts_rt (behind_parts hg) hl
    refine ⟨⟨fun b hb => ?_, List.pairwise_append.2 ⟨ra.2, rb.2, fun y hy z hz => ?_⟩⟩, fun x t hx => ?_⟩
    · rcases List.mem_append.1 hb with h | h
      · exact ra.1 b h
      · exact rb.1 b h
    · obtain ⟨h1, _, h3⟩ := parts_in (ahead_parts hf) hl.1 hy
      have h4 := (parts_in (behind_parts hg) hl.1 hz).2.1
      have := h1.e0
      refine ⟨by omega, ?_⟩
      cases hgo : goesA y z with
      | false => rfl
      | true => have := (goes_ext.1 hgo).2.2.1; omega
    · rw [has_app, has_ahead hl.1 hf hx, has_behind hl.1 hg hx, ← and_or_left]
      exact ⟨fun ⟨h1, h2⟩ => ⟨h1, (touch_iff hlo hhi hx (has_range hl.1 h1) hlt).1 h2⟩, fun ⟨h1, h2⟩ => ⟨h1, (touch_iff hlo hhi hx (has_range hl.1 h1) hlt).2 h2⟩⟩
theorem fo_in {a : Ar} (h : Fo a) : In64 a.s ∧ In64 a.e := by
  have := h.lo; have := h.hi; have := h.lt
  unfold In64
  omega
theorem touch_ar {a : Ar} (h : Fo a) {x : Int} (hx : x % 4096 = 0) : Touch x a.s a.e ↔ inA a x := by
  have := h.s0; have := h.e0; have := h.lt
  unfold Touch inA
  omega
theorem put_spec {l : List Ar} (hl : Rt l) {a : Ar} (ha : Fo a) : Rt (putL l a) ∧ ∀ x t, x % 4096 = 0 → (Has (putL l a) x t ↔ (inA a x ∧ ext a x = t) ∨ (Has l x t ∧ ¬ inA a x)) := by
  have hs := (fo_in ha).1
  have he := (fo_in ha).2
  have := ha.lt; have := ha.s0; have := ha.e0; have := ha.hi
  have hfs : floorA a.s = a.s := by rw [floorA_eq' hs]; omega
  have hte : toI a.e = a.e := by
    obtain ⟨h1, h2⟩ := toI_eq he
    by_cases hc : a.e < 2097152
    · rw [h1 hc]; omega
    · exact h2 hc
  unfold putL
  rw [rt_iff.2 hl, fo.2 ha, Bool.and_true, if_pos rfl]
  unfold aroundA aroundB
  rw [if_neg (by omega), if_neg (by omega)]
  have ok := three_ok (m := [a]) hl.ok (floor0 hs) (to0 he) (by omega) ⟨fun b hb => by rw [List.mem_singleton.1 hb]; exact fo.2 ha, List.pairwise_singleton _ _⟩ (fun b hb => by rw [List.mem_singleton.1 hb]; omega)
  obtain ⟨j1, j2⟩ := joined_rt ok
  refine ⟨j1, fun x t hx => ?_⟩
  rw [j2, has_app, has_app, has_one, has_ahead hl.1 (floor0 hs) hx, has_behind hl.1 (to0 he) hx, hfs, hte]
  unfold inA
  constructor
  · rintro ((⟨h1, h2⟩ | h1) | ⟨h1, h2⟩)
    · exact .inr ⟨h1, by omega⟩
    · exact .inl h1
    · exact .inr ⟨h1, by omega⟩
  · rintro (h1 | ⟨h1, h2⟩)
    · exact .inl (.inr h1)
    · by_cases hxs : x < a.s
      · exact .inl (.inl ⟨h1, hxs⟩)
      · exact .inr ⟨h1, by omega⟩
def setT (p : Int) (t : At) : At := { t with p := p }
theorem setA_ext (p : Int) (a : Ar) (x : Int) : ext (setA p a) x = setT p (ext a x) := rfl
theorem setA_fo {p : Int} (h0 : 0 ≤ p) (h7 : p ≤ 7) {a : Ar} (h : Fo a) : Fo (setA p a) := ⟨h.s0, h.e0, h.lo, h.hi, h.lt, h0, h7, h.b0, h.b9, h.oz, h.om⟩
theorem has_set (p : Int) (l : List Ar) (x : Int) (t : At) : Has (l.map (setA p)) x t ↔ ∃ t0, Has l x t0 ∧ t = setT p t0 := by
  unfold Has
  constructor
  · rintro ⟨b, hb, h1, h2⟩
    obtain ⟨a, ha, rfl⟩ := List.mem_map.1 hb
    exact ⟨ext a x, ⟨a, ha, h1, rfl⟩, by rw [← h2, setA_ext]⟩
  · rintro ⟨t0, ⟨a, ha, h1, h2⟩, h3⟩
    exact ⟨setA p a, List.mem_map.2 ⟨a, ha, rfl⟩, h1, by rw [setA_ext, h2, h3]⟩
theorem set_ok {p : Int} (h0 : 0 ≤ p) (h7 : p ≤ 7) {l : List Ar} (h : Ok l) : Ok (l.map (setA p)) := by
  refine ⟨fun b hb => ?_, List.pairwise_map.2 h.2⟩
  obtain ⟨a, ha, rfl⟩ := List.mem_map.1 hb
  exact fo.2 (setA_fo h0 h7 (fo.1 (h.1 a ha)))
theorem set_spec {l : List Ar} (hl : Rt l) {lo hi p : Int} (hlo : In64 lo) (hhi : In64 hi) (h0 : 0 ≤ p) (h7 : p ≤ 7) : Rt (setL l lo hi p) ∧ ∀ x t, x % 4096 = 0 → (Has (setL l lo hi p) x t ↔ (Has l x t ∧ ¬ Touch x lo hi) ∨ ∃ t0, (Has l x t0 ∧ Touch x lo hi) ∧ t = setT p t0) := by
  unfold setL
  rw [rt_iff.2 hl, if_neg (by simp only [Bool.not_true, Bool.false_or, Bool.or_eq_true, decide_eq_true_eq]; omega)]
  by_cases h : lo ≥ hi
  · unfold aroundA aroundB midL
    rw [if_pos h, if_pos h, if_neg (by omega), List.append_nil, List.append_nil]
    obtain ⟨j1, j2⟩ := joined_rt hl.ok
    refine ⟨j1, fun x t hx => (j2 x t).trans ⟨fun h1 => .inl ⟨h1, fun h2 => by have := h2.1; omega⟩, ?_⟩⟩
    rintro (h1 | ⟨t0, ⟨_, h2⟩, _⟩)
    · exact h1.1
    · have := h2.1; omega
  · have hlt : lo < hi := by omega
    unfold aroundA aroundB midL
    rw [if_neg h, if_neg h, if_pos hlt]
    have hf := floor0 hlo
    have hg := to0 hhi
    have hfg := floor_lt_to hlo hhi hlt
    have ow := set_ok h0 h7 (parts_ok (within_parts lo hi) hl.ok)
    have ok := three_ok (m := (withinL l lo hi).map (setA p)) hl.ok hf hg (by omega) ow (fun b hb => by
      obtain ⟨a, ha, rfl⟩ := List.mem_map.1 hb
      obtain ⟨f1, f2, f3⟩ := parts_in (within_parts lo hi) hl.1 ha
      have := f1.s0; have := f1.e0; have := f1.lo; have := f1.hi; have := f1.lt
      show floorA lo ≤ a.s ∧ a.e ≤ toI hi
      have k1 := touch_iff hlo hhi f1.s0 (by omega) hlt
      have k2 := touch_iff hlo hhi (x := a.e - 4096) (by omega) (by omega) hlt
      have n1 : ¬ (a.s < floorA lo ∨ toI hi ≤ a.s) := fun hh => k1.1 hh f2
      have n2 : ¬ (a.e - 4096 < floorA lo ∨ toI hi ≤ a.e - 4096) := fun hh => k2.1 hh f3
      have := to0 hhi
      omega)
    obtain ⟨j1, j2⟩ := joined_rt ok
    refine ⟨j1, fun x t hx => ?_⟩
    rw [j2, has_app, has_app, has_set, has_ahead hl.1 hf hx, has_behind hl.1 hg hx]
    constructor
    · rintro ((⟨h1, h2⟩ | ⟨t0, h1, h2⟩) | ⟨h1, h2⟩)
      · exact .inl ⟨h1, (touch_iff hlo hhi hx (has_range hl.1 h1) hlt).1 (.inl h2)⟩
      · exact .inr ⟨t0, (has_within hl.1 hx).1 h1, h2⟩
      · exact .inl ⟨h1, (touch_iff hlo hhi hx (has_range hl.1 h1) hlt).1 (.inr h2)⟩
    · rintro (⟨h1, h2⟩ | ⟨t0, h1, h2⟩)
      · rcases (touch_iff hlo hhi hx (has_range hl.1 h1) hlt).2 h2 with h3 | h3
        · exact .inl (.inl ⟨h1, h3⟩)
        · exact .inr ⟨h1, h3⟩
      · exact .inl (.inr ⟨t0, (has_within hl.1 hx).2 h1, h2⟩)
end Go.Proofs.Ytbcicjmepojlnaa.Eng
/- What the reference's Of and Made come to, page by page; how many areas there are; no condition but those typed. -/
namespace Go.Proofs.Ytbcicjmepojlnaa.Eng
open Go Go.RowKit
set_option autoImplicit false
set_option linter.unusedSimpArgs false
set_option linter.unusedVariables false

theorem nthP_set {s : List Pg} {i : Nat} (p : Pg) (h : i < s.length) (q : Nat) : nthP (s.set i p) q = if q = i then p else nthP s q := by
  unfold nthP
  rw [List.getD_eq_getElem?_getD, List.getD_eq_getElem?_getD, List.getElem?_set]
  by_cases hq : i = q
  · subst hq
    rw [if_pos rfl, if_pos h, if_pos rfl]
    rfl
  · rw [if_neg hq, if_neg (fun e => hq e.symm)]
theorem refAttr_ext {a : Ar} (h : Fo a) {q : Int} (h1 : a.s ≤ 4096 * q) (h2 : 4096 * q < a.e) : refAttr a q = ext a (4096 * q) := by
  have := h.s0; have := h.e0
  rw [(refAttr_in (fo.2 h) (q := q) (by omega) (by omega)).2]
  unfold ext offP
  simp only [At.mk.injEq, true_and]
  split
  · rfl
  · omega
def pgOf (a : Ar) (q : Nat) : Pg := ⟨true, ext a (4096 * q)⟩
theorem ofA_get {a : Ar} (h : Fo a) {s : List Pg} (hs : s.length = 512) : ∀ (k : Nat), k ≤ lenA a → ∀ q : Nat, nthP (ofA a s k) q = if a.s ≤ 4096 * (q : Int) ∧ 4096 * (q : Int) < a.s + 4096 * k then pgOf a q else nthP s q
  | 0, _, q => by
    rw [if_neg (by omega)]
    rfl
  | k + 1, hk, q => by
    have := h.s0; have := h.e0; have := h.lo; have := h.hi; have := h.lt
    have hk' : (k : Int) < a.e / 4096 - a.s / 4096 := by unfold lenA at hk; omega
    have hp : (pG a k).toNat < (ofA a s k).length := by rw [ofA_len, hs]; unfold pG; omega
    show nthP (ofStep a (ofA a s k) k) q = _
    unfold ofStep
    rw [nthP_set _ hp, ofA_get h hs k (by omega) q]
    by_cases hq : q = (pG a k).toNat
    · have hq' : (q : Int) = a.s / 4096 + k := by rw [hq]; unfold pG; omega
      rw [if_pos hq, if_pos (by omega), refAttr_ext h (by unfold pG; omega) (by unfold pG; omega)]
      unfold pgOf
      rw [hq']
      rfl
    · have hq' : (q : Int) ≠ a.s / 4096 + k := by intro e; apply hq; unfold pG; omega
      rw [if_neg hq]
      by_cases hc : a.s ≤ 4096 * (q : Int) ∧ 4096 * (q : Int) < a.s + 4096 * k
      · rw [if_pos hc, if_pos (by omega)]
      · rw [if_neg hc, if_neg (by omega)]
/-- A step that paints an area's pages. -/
def Paints (f : List Pg → Ar → List Pg) : Prop := ∀ s a, Fo a → s.length = 512 → (f s a).length = 512 ∧ ∀ q : Nat, q < 512 → (inA a (4096 * q) → nthP (f s a) q = pgOf a q) ∧ (¬ inA a (4096 * q) → nthP (f s a) q = nthP s q)
theorem of_paints : Paints fun s a => ofA a s (lenA a) := by
  intro s a h hs
  have := h.s0; have := h.e0; have := h.lt
  refine ⟨by rw [ofA_len, hs], fun q hq => ?_⟩
  have h1 := ofA_get h hs (lenA a) (Nat.le_refl _) q
  have h2 : a.s + 4096 * (lenA a : Int) = a.e := by unfold lenA; omega
  rw [h2] at h1
  exact ⟨fun hi => h1.trans (if_pos hi), fun hi => h1.trans (if_neg hi)⟩
theorem paint_not {f : List Pg → Ar → List Pg} (hf : Paints f) {q : Nat} (hq : q < 512) : ∀ (l : List Ar) (s : List Pg), Fm l → s.length = 512 → (∀ a ∈ l, ¬ inA a (4096 * q)) → nthP (l.foldl f s) q = nthP s q ∧ (l.foldl f s).length = 512
  | [], s, _, hs, _ => ⟨rfl, hs⟩
  | a :: l, s, hl, hs, hn => by
    obtain ⟨h1, h2⟩ := hf s a (fo.1 (hl a (List.mem_cons_self ..))) hs
    have := paint_not hf hq l (f s a) (fun c hc => hl c (List.mem_cons_of_mem _ hc)) h1 fun c hc => hn c (List.mem_cons_of_mem _ hc)
    rw [List.foldl_cons]
    exact ⟨this.1.trans ((h2 q hq).2 (hn a (List.mem_cons_self ..))), this.2⟩
theorem paint_yes {f : List Pg → Ar → List Pg} (hf : Paints f) {q : Nat} (hq : q < 512) : ∀ (l : List Ar) (s : List Pg), Ok l → s.length = 512 → ∀ a ∈ l, inA a (4096 * q) → nthP (l.foldl f s) q = pgOf a q
  | b :: l, s, hl, hs, a, ha, hi => by
    obtain ⟨h1, h2⟩ := hf s b (fo.1 (hl.1 b (List.mem_cons_self ..))) hs
    have pl := List.pairwise_cons.1 hl.2
    have hl' : Ok l := ⟨fun c hc => hl.1 c (List.mem_cons_of_mem _ hc), pl.2⟩
    rw [List.foldl_cons]
    rcases List.mem_cons.1 ha with rfl | h
    · rw [(paint_not hf hq l _ hl'.1 h1 fun c hc hic => by have := pl.1 c hc; have := hi.2; have := hic.1; omega).1]
      exact (h2 q hq).1 hi
    · exact paint_yes hf hq l _ hl' h1 a h hi
theorem noS_get (q : Nat) : nthP noS q = noPg := by
  unfold nthP noS
  rw [List.getD_eq_getElem?_getD, List.getElem?_replicate]
  split <;> rfl
/-- The pages of areas in order. -/
theorem painted {f : List Pg → Ar → List Pg} (hf : Paints f) {l : List Ar} (hl : Ok l) : (∀ x t, x % 4096 = 0 → (PHas (l.foldl f noS) x t ↔ Has l x t)) ∧ ∀ q : Nat, q < 512 → (nthP (l.foldl f noS) q).is = false → nthP (l.foldl f noS) q = noPg := by
  have two : ∀ q : Nat, q < 512 → (∃ a ∈ l, inA a (4096 * q) ∧ nthP (l.foldl f noS) q = pgOf a q) ∨ ((∀ a ∈ l, ¬ inA a (4096 * q)) ∧ nthP (l.foldl f noS) q = noPg) := by
    intro q hq
    by_cases h : ∃ a ∈ l, inA a (4096 * q)
    · obtain ⟨a, ha, hi⟩ := h
      exact .inl ⟨a, ha, hi, paint_yes hf hq l noS hl noS_len a ha hi⟩
    · have hn : ∀ a ∈ l, ¬ inA a (4096 * q) := fun a ha hi => h ⟨a, ha, hi⟩
      exact .inr ⟨hn, by rw [(paint_not hf hq l noS hl.1 noS_len hn).1, noS_get]⟩
  refine ⟨fun x t hx => ⟨?_, ?_⟩, fun q hq hi => ?_⟩
  · rintro ⟨q, rfl, h0, hq, h1, h2⟩
    rcases two q hq with ⟨a, ha, hi, e⟩ | ⟨_, e⟩
    · rw [e] at h2
      exact ⟨a, ha, hi, h2⟩
    · rw [e] at h1
      cases h1
  · rintro ⟨a, ha, hi, h⟩
    have fa := fo.1 (hl.1 a ha)
    have := fa.lo; have := fa.hi; have := hi.1; have := hi.2
    have hxq : x = 4096 * ((x / 4096).toNat : Int) := by omega
    refine ⟨(x / 4096).toNat, hxq, by omega, by omega, ?_⟩
    rcases two (x / 4096).toNat (by omega) with ⟨b, hb, hi', e⟩ | ⟨hn, _⟩
    · rw [e]
      refine ⟨rfl, ?_⟩
      show ext b (4096 * ((x / 4096).toNat : Int)) = t
      rw [← hxq] at hi' ⊢
      exact has_fun hl ⟨b, hb, hi', rfl⟩ ⟨a, ha, hi, h⟩
    · exact (hn a ha (by rw [← hxq]; exact hi)).elim
  · rcases two q hq with ⟨a, ha, _, e⟩ | ⟨_, e⟩
    · rw [e] at hi
      cases hi
    · exact e
theorem of_spec {l : List Ar} (hl : Ok l) : (∀ x t, x % 4096 = 0 → (PHas (ofL l) x t ↔ Has l x t)) ∧ ∀ q : Nat, q < 512 → (nthP (ofL l) q).is = false → nthP (ofL l) q = noPg := painted of_paints hl

/-! ### Made -/
theorem over_get (s t : List Pg) (hs : s.length = 512) : ∀ (n : Nat), n ≤ 512 → ∀ q : Nat, nthP (overN s t n) q = if q < n ∧ (nthP t q).is = true then nthP t q else nthP s q
  | 0, _, q => by rw [if_neg (by omega)]; rfl
  | n + 1, hn, q => by
    have ih := over_get s t hs n (by omega) q
    cases hi : (nthP t n).is with
    | true =>
      rw [over_yes hi, nthP_set _ (by rw [overN_len, hs]; omega), ih]
      by_cases hq : q = n
      · subst hq
        rw [if_pos rfl, if_pos ⟨by omega, hi⟩]
      · rw [if_neg hq]
        by_cases hc : q < n ∧ (nthP t q).is = true
        · rw [if_pos hc, if_pos ⟨by omega, hc.2⟩]
        · rw [if_neg hc, if_neg (fun h => hc ⟨by omega, h.2⟩)]
    | false =>
      rw [over_no hi, ih]
      by_cases hc : q < n ∧ (nthP t q).is = true
      · rw [if_pos hc, if_pos ⟨by omega, hc.2⟩]
      · rw [if_neg hc, if_neg]
        rintro ⟨h1, h2⟩
        by_cases hq : q = n
        · subst hq; rw [hi] at h2; cases h2
        · exact hc ⟨by omega, h2⟩
theorem one_ok {a : Ar} (h : Fo a) : Ok [a] := ⟨fm_one (fo.2 h), List.pairwise_singleton _ _⟩
theorem made_paints : Paints madeStep := by
  intro s a h hs
  rw [made_yes (fo.2 h)]
  refine ⟨by unfold overS; rw [overN_len, hs], fun q hq => ?_⟩
  have h1 : nthP (overS s (ofL [a])) q = _ := over_get s (ofL [a]) hs 512 (Nat.le_refl _) q
  have h2 := (of_paints noS a h noS_len).2 q hq
  have h3 : ofL [a] = ofA a noS (lenA a) := rfl
  rw [h1, h3]
  constructor
  · intro hi
    have e := h2.1 hi
    simp only at e
    rw [e, if_pos ⟨hq, rfl⟩]
  · intro hi
    have e := h2.2 hi
    simp only at e
    rw [e, noS_get, if_neg (by intro hh; have := hh.2; cases this)]
theorem good_paint {s : List Pg} (hs : GoodS s) (a : Ar) : GoodS (madeStep s a) := by
  cases hf : formed a with
  | false => rw [made_no hf]; exact hs
  | true =>
    have fa := fo.1 hf
    obtain ⟨h1, h2⟩ := made_paints s a fa hs.1
    refine ⟨h1, fun q hq hi => ?_⟩
    have := fa.lo; have := fa.hi; have := fa.s0
    by_cases hin : inA a (4096 * q)
    · rw [(h2 q hq).1 hin]
      exact ⟨by have := hin.1; omega, ext_good fa hin (by omega)⟩
    · rw [(h2 q hq).2 hin] at hi ⊢
      exact hs.2 q hq hi
theorem noS_good : GoodS noS := ⟨noS_len, fun q hq hi => by rw [noS_get] at hi; cases hi⟩
theorem good_fold : ∀ (l : List Ar) (s : List Pg), GoodS s → GoodS (l.foldl madeStep s)
  | [], s, hs => hs
  | a :: l, s, hs => good_fold l (madeStep s a) (good_paint hs a)
theorem madeT_good (l : List Ar) : GoodS (madeT l) := good_fold l noS noS_good
theorem made_spec (l : List Ar) : Rt (madeL l) ∧ ∀ x t, x % 4096 = 0 → (Has (madeL l) x t ↔ PHas (madeT (l.take 40)) x t) := listS_spec (madeT_good _)
/-- Of a right list the same is made. -/
theorem made_self {l : List Ar} (hl : Rt l) (hn : l.length ≤ 40) : madeL l = l := by
  obtain ⟨h1, h2⟩ := made_spec l
  refine rt_ext h1 hl fun x t hx => ?_
  rw [h2 x t hx, List.take_of_length_le hn]
  exact (painted made_paints hl.ok).1 x t hx
/-- One more area. -/
theorem made_more {l : List Ar} (hl : Rt l) {a : Ar} (ha : Fo a) (hn : l.length < 40) : madeL (l ++ [a]) = putL l a := by
  obtain ⟨h1, h2⟩ := made_spec (l ++ [a])
  obtain ⟨p1, p2⟩ := put_spec hl ha
  refine rt_ext h1 p1 fun x t hx => ?_
  rw [h2 x t hx, p2 x t hx, List.take_of_length_le (by rw [List.length_append]; show l.length + 1 ≤ 40; omega)]
  have e : madeT (l ++ [a]) = madeStep (madeT l) a := by unfold madeT; rw [List.foldl_append]; rfl
  rw [e]
  have hT := madeT_len l
  obtain ⟨_, g2⟩ := made_paints (madeT l) a ha hT
  have hP : ∀ x t, x % 4096 = 0 → (PHas (madeT l) x t ↔ Has l x t) := (painted made_paints hl.ok).1
  rw [← hP x t hx]
  have := ha.lo; have := ha.hi
  constructor
  · rintro ⟨q, rfl, q0, q1, q2, q3⟩
    by_cases hin : inA a (4096 * q)
    · rw [(g2 q q1).1 hin] at q3
      exact .inl ⟨hin, q3⟩
    · rw [(g2 q q1).2 hin] at q2 q3
      exact .inr ⟨⟨q, rfl, q0, q1, q2, q3⟩, hin⟩
  · rintro (⟨hin, h3⟩ | ⟨⟨q, rfl, q0, q1, q2, q3⟩, hin⟩)
    · have k1 := hin.1
      have k2 := hin.2
      have hxq : x = 4096 * ((x / 4096).toNat : Int) := by omega
      refine ⟨(x / 4096).toNat, hxq, by omega, by omega, ?_⟩
      rw [(g2 _ (by omega)).1 (by rw [← hxq]; exact hin)]
      refine ⟨rfl, ?_⟩
      show ext a (4096 * ((x / 4096).toNat : Int)) = t
      rw [← hxq]
      exact h3
    · refine ⟨q, rfl, q0, q1, ?_⟩
      rw [(g2 q q1).2 hin]
      exact ⟨q2, q3⟩

/-! ### How many areas -/
theorem nodup_le : ∀ (l k : List Int), l.Nodup → (∀ x ∈ l, x ∈ k) → l.length ≤ k.length
  | [], k, _, _ => Nat.zero_le _
  | x :: l, k, hn, hs => by
    obtain ⟨k1, k2, rfl⟩ := List.append_of_mem (hs x (List.mem_cons_self ..))
    obtain ⟨h1, h2⟩ := List.nodup_cons.1 hn
    have := nodup_le l (k1 ++ k2) h2 fun y hy => by
      have := hs y (List.mem_cons_of_mem _ hy)
      rcases List.mem_append.1 this with h | h
      · exact List.mem_append.2 (.inl h)
      · rcases List.mem_cons.1 h with rfl | h
        · exact (h1 hy).elim
        · exact List.mem_append.2 (.inr h)
    rw [List.length_append] at this
    rw [List.length_append, List.length_cons, List.length_cons]
    omega
def edges (l : List Ar) : List Int := l.flatMap fun a => [a.s, a.e]
theorem edges_len : ∀ l : List Ar, (edges l).length = 2 * l.length
  | [] => rfl
  | a :: l => by
    unfold edges
    rw [List.flatMap_cons, List.length_append, List.length_cons]
    have := edges_len l
    unfold edges at this
    rw [this]
    show 2 + 2 * l.length = 2 * (l.length + 1)
    omega
/-- Where no area that was laid begins or ends, a page goes on from the one ahead of it. -/
def GoesP (s : List Pg) (q : Nat) : Prop := (nthP s q).is = (nthP s (q - 1)).is ∧ ((nthP s q).is = true → afterA (nthP s (q - 1)).t (nthP s q).t = true)
theorem goes_step {s : List Pg} (hs : s.length = 512) {a : Ar} {q : Nat} (h0 : 16 ≤ q) (hq : q < 512) (h : GoesP s q) (hn : formed a = true → a.s ≠ 4096 * q ∧ a.e ≠ 4096 * q) : GoesP (madeStep s a) q := by
  cases hf : formed a with
  | false => rw [made_no hf]; exact h
  | true =>
    have fa := fo.1 hf
    obtain ⟨_, g⟩ := made_paints s a fa hs
    obtain ⟨n1, n2⟩ := hn hf
    have := fa.s0; have := fa.e0
    have hiff : inA a (4096 * q) ↔ inA a (4096 * ((q - 1 : Nat) : Int)) := by unfold inA; omega
    unfold GoesP
    by_cases hin : inA a (4096 * q)
    · have hin' := hiff.1 hin
      rw [(g q hq).1 hin, (g (q - 1) (by omega)).1 hin']
      refine ⟨rfl, fun _ => ?_⟩
      show afterA (ext a (4096 * ((q - 1 : Nat) : Int))) (ext a (4096 * q)) = true
      rw [after_ext fa hin' (by omega)]
      congr 1
      omega
    · have hin' : ¬ inA a (4096 * ((q - 1 : Nat) : Int)) := fun hh => hin (hiff.2 hh)
      rw [(g q hq).2 hin, (g (q - 1) (by omega)).2 hin']
      exact h
theorem goes_fold {q : Nat} (h0 : 16 ≤ q) (hq : q < 512) : ∀ (l : List Ar) (s : List Pg), s.length = 512 → GoesP s q → (∀ a ∈ l, a.s ≠ 4096 * q ∧ a.e ≠ 4096 * q) → GoesP (l.foldl madeStep s) q
  | [], s, _, h, _ => h
  | a :: l, s, hs, h, hn => goes_fold h0 hq l (madeStep s a) (by rw [madeStep_len, hs]) (goes_step hs h0 hq h fun _ => hn a (List.mem_cons_self ..)) fun c hc => hn c (List.mem_cons_of_mem _ hc)
theorem is_below {q : Nat} (hq : q < 512) {M : Int} : ∀ (l : List Ar) (s : List Pg), s.length = 512 → ((nthP s q).is = true → 4096 * (q : Int) < M) → (∀ a ∈ l, a.e ≤ M) → (nthP (l.foldl madeStep s) q).is = true → 4096 * (q : Int) < M
  | [], s, _, h, _ => h
  | a :: l, s, hs, h, hn => is_below hq l (madeStep s a) (by rw [madeStep_len, hs]) (by
      cases hf : formed a with
      | false => rw [made_no hf]; exact h
      | true =>
        obtain ⟨_, g⟩ := made_paints s a (fo.1 hf) hs
        have := hn a (List.mem_cons_self ..)
        by_cases hin : inA a (4096 * q)
        · intro _; have := hin.2; omega
        · rw [(g q hq).2 hin]; exact h) fun c hc => hn c (List.mem_cons_of_mem _ hc)
/-- Each area of what is made begins where one that was laid begins or ends. -/
theorem made_edges {l : List Ar} (hn : l.length ≤ 40) {c : Ar} (hc : c ∈ madeL l) : c.s ∈ edges l := by
  obtain ⟨r1, r2⟩ := made_spec l
  rw [List.take_of_length_le hn] at r2
  have fc := fo.1 (r1.1 c hc)
  have := fc.lo; have := fc.hi; have := fc.lt; have := fc.s0; have := fc.e0
  obtain ⟨q, hq, h0, h1, h2, h3⟩ := (r2 c.s (ext c c.s) fc.s0).1 ⟨c, hc, ⟨Int.le_refl _, fc.lt⟩, rfl⟩
  by_cases he : ∃ a ∈ l, a.s = c.s ∨ a.e = c.s
  · obtain ⟨a, ha, h⟩ := he
    unfold edges
    rw [List.mem_flatMap]
    rcases h with h | h
    · exact ⟨a, ha, by rw [← h]; exact List.mem_cons_self ..⟩
    · exact ⟨a, ha, by rw [← h]; exact List.mem_cons_of_mem _ (List.mem_cons_self ..)⟩
  · exfalso
    have hg : GoesP (madeT l) q := goes_fold h0 h1 l noS noS_len ⟨by rw [noS_get, noS_get], fun hh => by rw [noS_get] at hh; cases hh⟩ fun a ha => ⟨fun e => he ⟨a, ha, .inl (by omega)⟩, fun e => he ⟨a, ha, .inr (by omega)⟩⟩
    obtain ⟨g1, g2⟩ := hg
    rw [h2] at g1
    have g3 := g2 h2
    have hb16 : 16 ≤ q - 1 := ((madeT_good l).2 (q - 1) (by omega) g1.symm).1
    obtain ⟨b, hb, b1, b2⟩ := (r2 (4096 * ((q - 1 : Nat) : Int)) (nthP (madeT l) (q - 1)).t (by omega)).2 ⟨q - 1, rfl, hb16, by omega, g1.symm, rfl⟩
    have fb := fo.1 (r1.1 b hb)
    have := fb.lo; have := fb.hi; have := fb.lt; have := fb.s0; have := fb.e0; have := b1.1; have := b1.2
    -- b lies ahead of c, and goes on in it
    have hbc : b ≠ c := by rintro rfl; omega
    have key : ∀ (k : List Ar), Rt k → b ∈ k → c ∈ k → b.e ≤ c.s ∧ goesA b c = false ∨ c.e ≤ b.s := by
      intro k
      induction k with
      | nil => intro _ h _; cases h
      | cons d k ih =>
        intro hk h h'
        have pk := List.pairwise_cons.1 hk.2
        rcases List.mem_cons.1 h with e1 | h1
        · rcases List.mem_cons.1 h' with e | h2
          · exact (hbc (e1.trans e.symm)).elim
          · exact .inl (e1 ▸ pk.1 c h2)
        · rcases List.mem_cons.1 h' with e | h2
          · exact .inr (e ▸ (pk.1 b h1).1)
          · exact ih ⟨fun x hx => hk.1 x (List.mem_cons_of_mem _ hx), pk.2⟩ h1 h2
    rcases key _ r1 hb hc with ⟨k1, k2⟩ | k1
    · have hbe : b.e = c.s := by omega
      rw [← b2, after_ext fb b1 (by omega), show 4096 * ((q - 1 : Nat) : Int) + 4096 = c.s by omega, h3] at g3
      have : goesA b c = true := goes_ext.2 ⟨fb, fc, hbe, by rw [hbe]; exact g3⟩
      rw [k2] at this
      cases this
    · omega
theorem madeL_count {l : List Ar} (h0 : 0 < l.length) (hn : l.length ≤ 40) : (madeL l).length + 1 ≤ 2 * l.length := by
  obtain ⟨r1, r2⟩ := made_spec l
  rw [List.take_of_length_le hn] at r2
  -- the greatest edge
  have hmax : ∀ k : List Int, k ≠ [] → ∃ M ∈ k, ∀ x ∈ k, x ≤ M := by
    intro k
    induction k with
    | nil => intro h; exact (h rfl).elim
    | cons x k ih =>
      intro _
      by_cases hk : k = []
      · subst hk
        exact ⟨x, List.mem_cons_self .., fun y hy => by rw [List.mem_singleton.1 hy]; exact Int.le_refl _⟩
      · obtain ⟨M, hM, hle⟩ := ih hk
        by_cases hx : x ≤ M
        · exact ⟨M, List.mem_cons_of_mem _ hM, fun y hy => by rcases List.mem_cons.1 hy with rfl | h; exact hx; exact hle y h⟩
        · exact ⟨x, List.mem_cons_self .., fun y hy => by rcases List.mem_cons.1 hy with rfl | h; exact Int.le_refl _; have := hle y h; omega⟩
  have hlen := edges_len l
  obtain ⟨M, hM, hle⟩ := hmax (edges l) (by intro e; rw [e] at hlen; simp at hlen; omega)
  have hnot : ∀ c ∈ madeL l, c.s ≠ M := by
    intro c hc e
    have fc := fo.1 (r1.1 c hc)
    obtain ⟨q, hq, q0, q1, q2, _⟩ := (r2 c.s (ext c c.s) fc.s0).1 ⟨c, hc, ⟨Int.le_refl _, fc.lt⟩, rfl⟩
    have := is_below q1 (M := M) l noS noS_len (fun h => by rw [noS_get] at h; cases h) (fun a ha => hle a.e (by unfold edges; rw [List.mem_flatMap]; exact ⟨a, ha, List.mem_cons_of_mem _ (List.mem_cons_self ..)⟩)) q2
    omega
  have hnd : ((madeL l).map (·.s) ++ [M]).Nodup := by
    rw [List.nodup_append]
    refine ⟨?_, List.pairwise_singleton _ _, fun x hx y hy => ?_⟩
    · rw [List.Nodup, List.pairwise_map]
      refine List.Pairwise.imp_of_mem ?_ r1.2
      intro a b ha hb hab
      have := (fo.1 (r1.1 a ha)).lt
      have := hab.1
      omega
    · rw [List.mem_singleton.1 hy]
      obtain ⟨c, hc, rfl⟩ := List.mem_map.1 hx
      exact hnot c hc
  have := nodup_le _ (edges l) hnd fun x hx => by
    rcases List.mem_append.1 hx with h | h
    · obtain ⟨c, hc, rfl⟩ := List.mem_map.1 h
      exact made_edges hn hc
    · rw [List.mem_singleton.1 h]; exact hM
  rw [List.length_append, List.length_map, hlen] at this
  exact this
theorem madeL_20 {l : List Ar} (hn : l.length ≤ 20) : (madeL l).length < 40 := by
  by_cases h0 : 0 < l.length
  · have := madeL_count h0 (by omega)
    omega
  · have : l = [] := List.eq_nil_of_length_eq_zero (by omega)
    subst this
    have := made_self (l := []) ⟨fun a h => (by cases h), List.Pairwise.nil⟩ (by decide)
    rw [this]
    decide
end Go.Proofs.Ytbcicjmepojlnaa.Eng
/- Contracts of functions (printed by genx.py of this work): what each hands back; condition: as its 'hside' says. -/
namespace Go.Proofs.Ytbcicjmepojlnaa.Eng
open Go Go.RowKit
set_option linter.unusedVariables false
set_option linter.unusedSimpArgs false

theorem b_set : Bodied Try.prog 63 := bodied Try.func63 rfl (by decide)
def F_set : FunX := fun κ avs => match avs with
  | [.lst l xl, .val (.c (.v (.int .i64 lo))), .val (.c (.v (.int .i64 hi))), .val (.c (.v (.int .i64 p)))] => some (κ _ (l.length ≤ 300000), (.row 53 6 ((κ _ ((setL l lo hi p).length))) ((κ _ (encL (setL l lo hi p)))) (fun x => .c x)))
  | _ => none
set_option maxRecDepth 100000 in
set_option maxHeartbeats 4000000 in
theorem k_set (l : List Ar) (lo : Int) (hi : Int) (p : Int) (Al : Option Addr) (cl : Nat) (hside : l.length ≤ 300000) (w : World) (hl : (Ent.rd Al 6 l.length (encL l)).holds w) :
    Calls Try.prog 63 #[.slice Al l.length cl, (SV.c (.v (.int .i64 lo))).den, (SV.c (.v (.int .i64 hi))).den, (SV.c (.v (.int .i64 p))).den] w fun e w' => ∃ v H', e = .returned v.den ∧ IsX (.row 53 6 (((setL l lo hi p).length)) ((encL (setL l lo hi p))) (fun x => .c x)) v H' ∧ HSat w (fun _ => False) H' w' := by
  obtain ⟨κ, hκ⟩ : ∃ κ : Kp, κ = kid := ⟨_, rfl⟩
  have hH : HSat w (fun _ => False) (heapOf [(nilId, .rd none 1 0 []), (200000, .rd Al 6 (κ _ l.length) (κ _ (encL l)))]) w := by
    subst hκ
    refine HSat.reads fun p hp => ?_
    simp only [List.mem_cons, List.not_mem_nil, or_false] at hp
    rcases hp with rfl | rfl
    · exact ⟨_, _, _, _, rfl, nil_holds w⟩
    · exact ⟨_, _, _, _, rfl, hl⟩
  refine (callsP (n := 55) FTok [e_right hκ, e_around hκ, e_within hκ, e_concat hκ, e_joined hκ] mixed [] Try.func63 rfl (by kernel_rfl) #[.slice Al l.length cl, (SV.c (.v (.int .i64 lo))).den, (SV.c (.v (.int .i64 hi))).den, (SV.c (.v (.int .i64 p))).den] [(0, .c (.sl 200000 Al (κ _ l.length) cl)), (1, .c (.v (.int .i64 lo))), (2, .c (.v (.int .i64 hi))), (3, .c (.v (.int .i64 p)))] _ w rfl [.tmp 8] rfl (by simp) (by subst hκ; simp [SV.den, C.den, kid]) hH (fun v H' => IsX (.row 53 6 ((κ _ ((setL l lo hi p).length))) ((κ _ (encL (setL l lo hi p)))) (fun x => .c x)) v H') hκ ?_).mono ?_
  rotate_left
  · subst hκ; intro e w' h; exact h
  intro P' hP'
  cbv
  repeat' (first | refine And.intro ?_ ?_ | (intro _; cbv) | (refine tst_mk (fun h => ?_) (fun h => ?_) <;> cbv) | (refine LookX.nil ?_; cbv) | (refine LookX.auto hκ ?_; cbv))
  all_goals (try (exact (lt_geT (lo := lo) (hi := hi) hκ (by assumption) (by assumption)).elim))
  all_goals (try (exact (lt_geF (lo := lo) (hi := hi) hκ (by assumption) (by assumption)).elim))
  all_goals (try (show Side _; refine ⟨?_⟩; subst hκ; delta kid at *; first | exact rfl | ((try dsimp only at *); have q1 := ahead_le l (floorA lo); have q2 := behind_le l (toI hi); have q3 := within_le l lo hi; (try simp only [setTo_len, List.length_append, List.length_cons, List.length_nil, List.length_map, and_self, true_or, or_true, eq_self, true_and, and_true, Nat.zero_add, Nat.add_zero]); (first | done | omega); done)))
  all_goals (try (show IsX _ _ _; subst hκ; delta kid at *; first | exact IsX.nil_ (set_no (by with_reducible assumption)) rfl | exact IsX.nil_ (set_no2 (by with_reducible assumption)) rfl | exact IsX.nil_ (set_no3 (by with_reducible assumption)) rfl))
  · refine loopP hP' FTok [e_concat hκ, e_joined hκ] mixed [9, 10, 11, 39] (σ := Unit) (fun _ => [(40, .c (.v (.int .i64 0)))]) (fun _ => [(nilId, .rd none 1 0 []), (200000, .rd Al 6 (κ _ l.length) (κ _ (encL l)))]) (fun _ => 0) () [nilId, 200000] ?_ (by decide) ?_ hκ ?_
    · cbv
    · cbv
    intro _
    cbv
    refine tst_mk (fun h => ?_) (fun h => ?_)
    · subst hκ; exact absurd h (by decide)
    cbv
    repeat' (first | refine And.intro ?_ ?_ | (intro _; cbv) | (refine tst_mk (fun h => ?_) (fun h => ?_) <;> cbv) | (refine LookX.nil ?_; cbv) | (refine LookX.auto hκ ?_; cbv))
    all_goals (try (show Side _; refine ⟨?_⟩; subst hκ; delta kid at *; first | exact rfl | ((try dsimp only at *); have q1 := ahead_le l (floorA lo); have q2 := behind_le l (toI hi); have q3 := within_le l lo hi; (try simp only [setTo_len, List.length_append, List.length_cons, List.length_nil, List.length_map, and_self, true_or, or_true, eq_self, true_and, and_true, Nat.zero_add, Nat.add_zero]); (first | done | omega); done)))
    subst hκ
    delta kid at *
    refine IsX.row_ (set_all (l := l) (lo := lo) (hi := hi) (p := p) (by with_reducible assumption) (by with_reducible assumption) (by with_reducible assumption) (by with_reducible assumption)) rfl rfl
  · rename_i A1 c1 A2 c2 A3 c3
    refine loopP hP' FTok [e_concat hκ, e_joined hκ] mixed [3, 9, 10, 11, 39] (σ := Nat) (fun i => [(40, .c (.v (.int .i64 (κ _ ((i : Nat) : Int)))))]) (fun i => [(nilId, .rd none 1 0 []), (28, .row A1 c1 53 6 (κ _ (aheadL (κ _ l) (floorA lo)).length) (κ _ (encL (aheadL (κ _ l) (floorA lo))))), (100028, .row A2 c2 53 6 (κ _ (behindL (κ _ l) (toI hi)).length) (κ _ (encL (behindL (κ _ l) (toI hi))))), (37, .row A3 c3 53 6 (κ _ (κ _ (withinL (κ _ l) lo hi)).length) (κ _ (encL (setTo p (withinL l lo hi) i))))]) (fun i => (withinL l lo hi).length - i) 0 [nilId, 28, 100028, 37] ?_ (by decide) ?_ hκ ?_
    · cbv
      subst hκ
      delta kid
      all_goals repeat' (first | exact rfl | exact trivial | refine And.intro ?_ ?_)
    · cbv
      subst hκ
      delta kid
      all_goals repeat' (first | exact rfl | exact trivial | refine And.intro ?_ ?_ | exact congrArg encL (setTo_zero p _).symm)
    intro i
    cbv
    refine tst_mk (fun h => ?_) (fun h => ?_)
    · have hx : i < (withinL l lo hi).length := by subst hκ; delta kid at h; have h2 : (i : Int) < ((withinL l lo hi).length : Int) := of_decide_eq_true h; omega
      cbv
      repeat' (first | refine And.intro ?_ ?_ | (intro _; cbv) | (refine tst_mk (fun h => ?_) (fun h => ?_) <;> cbv) | (refine LookX.nil ?_; cbv) | (refine LookX.auto hκ ?_; cbv))
      all_goals (clear hH; subst hκ; delta kid at *; (try dsimp only at *))
      · exact ⟨la_ix hx⟩
      · exact ⟨rfl⟩
      · exact ⟨Nat.zero_lt_one, setTo_in hx⟩
      · refine ⟨⟨i + 1, [nilId, 28, 100028, 37], (by show (withinL l lo hi).length - (i + 1) < (withinL l lo hi).length - i; omega), by decide, ?_, ?_⟩⟩
        all_goals repeat' (first | exact rfl | exact trivial | refine And.intro ?_ ?_ | exact congrArg (Value.int .i64) (nat_succ (by have := within_le l lo hi; omega)) | exact setTo_put hx)
    · have hx : ¬ i < (withinL l lo hi).length := by subst hκ; delta kid at h; have h2 : ¬ (i : Int) < ((withinL l lo hi).length : Int) := of_decide_eq_false h; omega
      cbv
      repeat' (first | refine And.intro ?_ ?_ | (intro _; cbv) | (refine tst_mk (fun h => ?_) (fun h => ?_) <;> cbv) | (refine LookX.nil ?_; cbv) | (refine LookX.auto hκ ?_; cbv))
      all_goals (try (show Side _; refine ⟨?_⟩; subst hκ; delta kid at *; first | exact rfl | ((try dsimp only at *); have q1 := ahead_le l (floorA lo); have q2 := behind_le l (toI hi); have q3 := within_le l lo hi; (try simp only [setTo_len, List.length_append, List.length_cons, List.length_nil, List.length_map, and_self, true_or, or_true, eq_self, true_and, and_true, Nat.zero_add, Nat.add_zero]); (first | done | omega); done)))
      subst hκ
      delta kid at *
      refine IsX.row_ (r' := joinedL (aheadL l (floorA lo) ++ setTo p (withinL l lo hi) i ++ behindL l (toI hi))) ?_ rfl rfl
      rw [setTo_all hx]
      exact set_some (l := l) (lo := lo) (hi := hi) (p := p) (by with_reducible assumption) (by with_reducible assumption) (by with_reducible assumption) (by with_reducible assumption)
def e_set {κ : Kp} (hκ : κ = kid) : ESpec Try.prog := fnES [.list, .flat, .flat, .flat] b_set F_set hκ fun avs p r hF hp => by
  unfold F_set at hF
  split at hF
  case h_2 => cases hF
  rename_i l xl lo hi p
  simp only [kid, Option.some.injEq, Prod.mk.injEq] at hF
  obtain ⟨rfl, rfl⟩ := hF
  refine ⟨fun x y h => by simp [SV.den, SV.den0, h], fun vs w hR => ?_⟩
  obtain ⟨il, Al, cl, vs0, rfl, rfl, hl, hR⟩ := hR
  obtain ⟨vs1, rfl, hR⟩ := hR
  obtain ⟨vs2, rfl, hR⟩ := hR
  obtain ⟨vs3, rfl, hR⟩ := hR
  have hR' : vs3 = [] := hR
  subst hR'
  exact k_set l lo hi p Al cl hp w hl

end Go.Proofs.Ytbcicjmepojlnaa.Eng
/- What lists that are not right tell; no condition. -/
namespace Go.Proofs.Ytbcicjmepojlnaa.Eng
open Go Go.RowKit
set_option autoImplicit false
set_option linter.unusedSimpArgs false
set_option linter.unusedVariables false
theorem wrong_all {l : List Ar} (h : rightL l = false) (x lo hi p : Int) (a : Ar) : foundL l x = false ∧ coveredL l lo hi = false ∧ within2L l lo hi = [] ∧ cutL l lo hi = [] ∧ putL l a = [] ∧ setL l lo hi p = [] ∧ pagesL l = 0 := by
  refine ⟨?_, (covered_a h).symm, within2_no h, cut_no h, put_no h, set_no h, (pages_no h).symm⟩
  unfold foundL
  rw [h, Bool.and_false]
theorem sameL_self (l : List Ar) : sameL l l = true := (sameL_iff l l).2 rfl
end Go.Proofs.Ytbcicjmepojlnaa.Eng
/- Contracts of functions (printed by genx.py of this work): what each hands back; condition: as its 'hside' says. -/
namespace Go.Proofs.Ytbcicjmepojlnaa.Eng
open Go Go.RowKit
set_option linter.unusedVariables false
set_option linter.unusedSimpArgs false

theorem b_awake7 : Bodied Try.prog 58 := bodied Try.func58 rfl (by decide)
def F_awake7 : FunX := fun κ avs => match avs with
  | [] => some (κ _ (True), (.val (.c (.v (.bool true)))))
  | _ => none
set_option maxRecDepth 100000 in
set_option maxHeartbeats 4000000 in
theorem k_awake7 (hside : True) (w : World) :
    Calls Try.prog 58 #[] w fun e w' => ∃ v H', e = .returned v.den ∧ IsX (.val (.c (.v (.bool true)))) v H' ∧ HSat w (fun _ => False) H' w' := by
  obtain ⟨κ, hκ⟩ : ∃ κ : Kp, κ = kid := ⟨_, rfl⟩
  have hH : HSat w (fun _ => False) (heapOf [(nilId, .rd none 1 0 [])]) w := by
    subst hκ
    refine HSat.reads fun p hp => ?_
    simp only [List.mem_cons, List.not_mem_nil, or_false] at hp
    rcases hp with rfl
    · exact ⟨_, _, _, _, rfl, nil_holds w⟩
  refine (callsP (n := 5) FTok [e_put hκ, e_pages hκ] mixed [] Try.func58 rfl (by kernel_rfl) #[] [] _ w rfl [.tmp 0] rfl (by simp) (by subst hκ; simp [SV.den, C.den, kid]) hH (fun v H' => IsX (.val (.c (.v (.bool true)))) v H') hκ ?_).mono ?_
  rotate_left
  · subst hκ; intro e w' h; exact h
  intro P' hP'
  cbv
  repeat' (first | refine And.intro ?_ ?_ | (intro _; cbv) | (refine tst_mk (fun h => ?_) (fun h => ?_) <;> cbv) | (refine LookX.nil ?_; cbv) | (refine LookX.auto hκ ?_; cbv))
  all_goals (try (show Side _; refine ⟨?_⟩; subst hκ; delta kid at *; first | exact rfl | exact trivial | exact ⟨rfl, rfl, .inl rfl⟩ | ((try dsimp only at *); (try simp only [setTo_len, noS_len, List.length_append, List.length_cons, List.length_nil, List.length_map, and_self, true_or, or_true, eq_self, true_and, and_true, Nat.zero_add, Nat.add_zero]); (first | done | omega); done)))
  all_goals (subst hκ; delta kid)
  all_goals (try (show Side _; refine ⟨?_⟩; decide +kernel))
  refine IsX.bool_ ?_
  decide +kernel
def e_awake7 {κ : Kp} (hκ : κ = kid) : ESpec Try.prog := fnES [] b_awake7 F_awake7 hκ fun avs p r hF hp => by
  unfold F_awake7 at hF
  split at hF
  case h_2 => cases hF
  simp only [kid, Option.some.injEq, Prod.mk.injEq] at hF
  obtain ⟨rfl, rfl⟩ := hF
  refine ⟨trivial, fun vs w hR => ?_⟩
  have hR' : vs = [] := hR
  subst hR'
  exact k_awake7 hp w

theorem b_listRight : Bodied Try.prog 16 := bodied Try.func16 rfl (by decide)
def F_listRight : FunX := fun κ avs => match avs with
  | [.lst l xl, .val (.agg [.v (.int .i64 a1), .v (.int .i64 a2), .v (.int .i64 a3), .v (.bool a4), .v (.int .i64 a5), .v (.int .i64 a6)]), .val (.agg [.v (.int .i64 at1), .v (.int .i64 at2)])] => some (κ _ (True), (.val (.c (.v (.bool true)))))
  | _ => none
set_option maxRecDepth 100000 in
set_option maxHeartbeats 4000000 in
theorem k_listRight (l : List Ar) (a1 : Int) (a2 : Int) (a3 : Int) (a4 : Bool) (a5 : Int) (a6 : Int) (at1 : Int) (at2 : Int) (Al : Option Addr) (cl : Nat) (hside : True) (w : World) (hl : (Ent.rd Al 6 l.length (encL l)).holds w) :
    Calls Try.prog 16 #[.slice Al l.length cl, (SV.agg [.v (.int .i64 a1), .v (.int .i64 a2), .v (.int .i64 a3), .v (.bool a4), .v (.int .i64 a5), .v (.int .i64 a6)]).den, (SV.agg [.v (.int .i64 at1), .v (.int .i64 at2)]).den] w fun e w' => ∃ v H', e = .returned v.den ∧ IsX (.val (.c (.v (.bool true)))) v H' ∧ HSat w (fun _ => False) H' w' := by
  obtain ⟨κ, hκ⟩ : ∃ κ : Kp, κ = kid := ⟨_, rfl⟩
  have hH : HSat w (fun _ => False) (heapOf [(nilId, .rd none 1 0 []), (200000, .rd Al 6 (κ _ l.length) (κ _ (encL l)))]) w := by
    subst hκ
    refine HSat.reads fun p hp => ?_
    simp only [List.mem_cons, List.not_mem_nil, or_false] at hp
    rcases hp with rfl | rfl
    · exact ⟨_, _, _, _, rfl, nil_holds w⟩
    · exact ⟨_, _, _, _, rfl, hl⟩
  refine (callsP (n := 88) FTok [e_awake7 hκ, e_rright hκ, e_right hκ, e_same hκ, e_find hκ, e_covered hκ, e_within2 hκ, e_cut hκ, e_put hκ, e_set hκ, e_pages hκ] mixed [] Try.func16 rfl (by kernel_rfl) #[.slice Al l.length cl, (SV.agg [.v (.int .i64 a1), .v (.int .i64 a2), .v (.int .i64 a3), .v (.bool a4), .v (.int .i64 a5), .v (.int .i64 a6)]).den, (SV.agg [.v (.int .i64 at1), .v (.int .i64 at2)]).den] [(0, .c (.sl 200000 Al (κ _ l.length) cl)), (1, .agg [.v (.int .i64 a1), .v (.int .i64 a2), .v (.int .i64 a3), .v (.bool a4), .v (.int .i64 a5), .v (.int .i64 a6)]), (2, .agg [.v (.int .i64 at1), .v (.int .i64 at2)])] _ w rfl [.tmp 6] rfl (by simp) (by subst hκ; simp [SV.den, C.den, kid]) hH (fun v H' => IsX (.val (.c (.v (.bool true)))) v H') hκ ?_).mono ?_
  rotate_left
  · subst hκ; intro e w' h; exact h
  intro P' hP'
  cbv
  repeat' (first | refine And.intro ?_ ?_ | (intro _; cbv) | (refine tst_mk (fun h => ?_) (fun h => ?_) <;> cbv) | (refine LookX.nil ?_; cbv) | (refine LookX.auto hκ ?_; cbv))
  all_goals (try (show Side _; refine ⟨?_⟩; subst hκ; delta kid at *; first | exact rfl | exact trivial | exact ⟨rfl, rfl, .inl rfl⟩ | ((try dsimp only at *); have q0 : ¬ (40 : Int) < (l.length : Int) := of_decide_eq_false (by assumption); (try simp only [setTo_len, noS_len, List.length_append, List.length_cons, List.length_nil, List.length_map, and_self, true_or, or_true, eq_self, true_and, and_true, Nat.zero_add, Nat.add_zero]); (first | done | omega); done)))
  all_goals (clear hH; subst hκ; delta kid at *; (try dsimp only at *))
  all_goals (try (show IsX _ _ _; exact IsX.val_ rfl))
  all_goals (try (exact ⟨by decide⟩))
  all_goals (show IsX _ _ _; refine IsX.bool_ ?_)
  all_goals (have hw := fun h : rightL l = false => wrong_all h at1 at1 at2 1 ⟨a1, a2, a3, a4, a5, a6⟩)
  all_goals (try (exact sameL_self l))
  all_goals simp_all
def e_listRight {κ : Kp} (hκ : κ = kid) : ESpec Try.prog := fnES [.list, .flat, .flat] b_listRight F_listRight hκ fun avs p r hF hp => by
  unfold F_listRight at hF
  split at hF
  case h_2 => cases hF
  rename_i l xl a1 a2 a3 a4 a5 a6 at1 at2
  simp only [kid, Option.some.injEq, Prod.mk.injEq] at hF
  obtain ⟨rfl, rfl⟩ := hF
  refine ⟨trivial, fun vs w hR => ?_⟩
  obtain ⟨il, Al, cl, vs0, rfl, rfl, hl, hR⟩ := hR
  obtain ⟨vs1, rfl, hR⟩ := hR
  obtain ⟨vs2, rfl, hR⟩ := hR
  have hR' : vs2 = [] := hR
  subst hR'
  exact k_listRight l a1 a2 a3 a4 a5 a6 at1 at2 Al cl hp w hl

end Go.Proofs.Ytbcicjmepojlnaa.Eng
/- What the laws of layer 7 come to, in plain words; no condition but those typed. -/
namespace Go.Proofs.Ytbcicjmepojlnaa.Eng
open Go Go.RowKit
set_option autoImplicit false
set_option linter.unusedSimpArgs false
set_option linter.unusedVariables false
theorem made_rt (l : List Ar) : Rt (madeL l) := (made_spec l).1
theorem rt_nil : Rt [] := ⟨fun a h => (by cases h), List.Pairwise.nil⟩
theorem rt_len {l : List Ar} (h : Rt l) : l.length ≤ 496 := by
  have hs : GoodS (ofL l) := ⟨ofL_len l, fun q hq hi => by
    by_cases he : ∃ a ∈ l, inA a (4096 * q)
    · obtain ⟨a, ha, hin⟩ := he
      have fa := fo.1 (h.1 a ha)
      have e : nthP (ofL l) q = pgOf a q := paint_yes of_paints hq l noS h.ok noS_len a ha hin
      rw [e]
      have := fa.lo; have := hin.1
      exact ⟨by omega, ext_good fa hin (by omega)⟩
    · have e : nthP (ofL l) q = nthP noS q := (paint_not of_paints hq l noS h.1 noS_len fun a ha hin => he ⟨a, ha, hin⟩).1
      rw [e, noS_get] at hi
      cases hi⟩
  obtain ⟨h1, h2⟩ := listS_spec hs
  have : listS (ofL l) = l := rt_ext h1 h fun x t hx => (h2 x t hx).trans ((of_spec h.ok).1 x t hx)
  rw [← this]
  exact listS_le _
theorem around_bd (l : List Ar) (hl : l.length ≤ 496) (lo hi : Int) : (aroundA l lo hi).length ≤ 496 ∧ (aroundB l lo hi).length ≤ 496 := by
  unfold aroundA aroundB
  have := ahead_le l (floorA lo)
  have := behind_le l (toI hi)
  split
  · exact ⟨hl, Nat.zero_le _⟩
  · omega
theorem cut_bd (l : List Ar) (lo hi : Int) : (cutL l lo hi).length ≤ 2000 := by
  unfold cutL
  split
  · rename_i h
    have := around_bd l (rt_len (rt_iff.1 h)) lo hi
    rw [List.length_append]
    omega
  · exact Nat.zero_le _
theorem put_bd (l : List Ar) (a : Ar) : (putL l a).length ≤ 2000 := by
  unfold putL
  split
  · rename_i h
    rw [Bool.and_eq_true] at h
    have := around_bd l (rt_len (rt_iff.1 h.1)) a.s a.e
    have := joined_le (aroundA l a.s a.e ++ [a] ++ aroundB l a.s a.e)
    rw [List.length_append, List.length_append] at this
    have e : [a].length = 1 := rfl
    omega
  · exact Nat.zero_le _
theorem set_bd (l : List Ar) (lo hi p : Int) : (setL l lo hi p).length ≤ 2000 := by
  unfold setL
  split
  · exact Nat.zero_le _
  · rename_i h
    have hr : rightL l = true := by
      cases hh : rightL l with
      | true => rfl
      | false => rw [hh] at h; exact (h rfl).elim
    have hl := rt_len (rt_iff.1 hr)
    have := around_bd l hl lo hi
    have := joined_le (aroundA l lo hi ++ midL l lo hi p ++ aroundB l lo hi)
    have hm : (midL l lo hi p).length ≤ 496 := by
      unfold midL
      split
      · rw [List.length_map]
        have := within_le l lo hi
        omega
      · exact Nat.zero_le _
    rw [List.length_append, List.length_append] at this
    omega
theorem bd {n m : Nat} (h : n ≤ 2000) (hm : 2000 ≤ m) : n ≤ m := Nat.le_trans h hm
theorem puts_enc (x : List Ar) (a1 a2 a3 : Int) (a4 : Bool) (a5 a6 : Int) : [] ++ encL x ++ [.v (.int .i64 a1), .v (.int .i64 a2), .v (.int .i64 a3), .v (.bool a4), .v (.int .i64 a5), .v (.int .i64 a6)] = encL (x ++ [(⟨a1, a2, a3, a4, a5, a6⟩ : Ar)]) := by
  rw [List.nil_append, encL_app, encL_one]
  rfl
theorem puts_law {l : List Ar} (hn : l.length ≤ 20) {a : Ar} (ha : formed a = true) : sameL (putL (madeL l) a) (madeL (madeL l ++ [a])) = true := by
  rw [sameL_iff, made_more (made_rt l) (fo.1 ha) (madeL_20 hn)]
theorem apart_law {x : List Ar} (hx : Rt x) {a b : Ar} (ha : formed a = true) (hb : formed b = true) (h : a.e ≤ b.s ∨ b.e ≤ a.s) : sameL (putL (putL x a) b) (putL (putL x b) a) = true := by
  rw [sameL_iff]
  have fa := fo.1 ha
  have fb := fo.1 hb
  obtain ⟨a1, a2⟩ := put_spec hx fa
  obtain ⟨b1, b2⟩ := put_spec hx fb
  obtain ⟨c1, c2⟩ := put_spec a1 fb
  obtain ⟨d1, d2⟩ := put_spec b1 fa
  refine rt_ext c1 d1 fun y t hy => ?_
  rw [c2 y t hy, d2 y t hy, a2 y t hy, b2 y t hy]
  have hd : inA a y → ¬ inA b y := by unfold inA; omega
  constructor
  · rintro (⟨h1, h2⟩ | ⟨⟨h1, h2⟩ | ⟨h1, h2⟩, h3⟩)
    · exact .inr ⟨.inl ⟨h1, h2⟩, fun h => hd h h1⟩
    · exact .inl ⟨h1, h2⟩
    · exact .inr ⟨.inr ⟨h1, h3⟩, h2⟩
  · rintro (⟨h1, h2⟩ | ⟨⟨h1, h2⟩ | ⟨h1, h2⟩, h3⟩)
    · exact .inr ⟨.inl ⟨h1, h2⟩, hd h1⟩
    · exact .inl ⟨h1, h2⟩
    · exact .inr ⟨.inr ⟨h1, h3⟩, h2⟩
theorem pageN_eq {a : Ar} (h : Fo a) : pageN a = (a.e - a.s) / 4096 := by
  have := h.lo; have := h.hi; have := h.lt
  unfold pageN
  rw [w64_id (n := a.e - a.s) (by unfold In64; omega), tdiv_pos (by omega), w64_id (by unfold In64; omega)]
theorem two_pages {a b : Ar} (ha : Fo a) (hb : Fo b) (h : a.e ≤ b.s) : pagesF (joinedL [a, b]) = (a.e - a.s + b.e - b.s) / 4096 := by
  have := ha.lo; have := ha.hi; have := ha.lt; have := ha.s0; have := ha.e0; have := hb.lo; have := hb.hi; have := hb.lt; have := hb.s0; have := hb.e0
  show pagesF (stepJ [a] b) = _
  unfold stepJ
  show pagesF (if joinsA a b = true then [a].dropLast ++ [joinA a b] else [a] ++ [b]) = _
  split
  · rename_i hj
    rw [joins_eq] at hj
    obtain ⟨_, fj, js, je, _⟩ := join_ext hj
    have he := (goes_ext.1 hj).2.2.1
    show w64 (0 + pageN (joinA a b)) = _
    rw [pageN_eq fj, js, je, w64_id (by unfold In64; omega)]
    omega
  · show w64 (w64 (0 + pageN a) + pageN b) = _
    rw [pageN_eq ha, pageN_eq hb, w64_id (n := 0 + _) (by unfold In64; omega), w64_id (by unfold In64; omega)]
    omega
theorem put_nil {a : Ar} (ha : Fo a) : putL [] a = [a] := by
  obtain ⟨h1, h2⟩ := put_spec rt_nil ha
  refine rt_ext h1 ⟨fm_one (fo.2 ha), List.pairwise_singleton _ _⟩ fun x t hx => ?_
  rw [h2 x t hx, has_one]
  exact ⟨fun h => h.elim id fun h => (Has.nil h.1).elim, .inl⟩
theorem apart_pages {a b : Ar} (ha : formed a = true) (hb : formed b = true) (h : a.e ≤ b.s ∨ b.e ≤ a.s) : pagesL (putL (putL [] a) b) = (a.e - a.s + b.e - b.s) / 4096 := by
  have fa := fo.1 ha
  have fb := fo.1 hb
  rw [put_nil fa]
  have r1 : Rt [a] := ⟨fm_one ha, List.pairwise_singleton _ _⟩
  obtain ⟨p1, p2⟩ := put_spec r1 fb
  unfold pagesL
  rw [if_pos (rt_iff.2 p1)]
  have hd : ∀ y, inA a y → ¬ inA b y := by unfold inA; omega
  rcases h with h | h
  · have ok : Ok [a, b] := ⟨fun c hc => by rcases List.mem_cons.1 hc with rfl | hc; exact ha; rw [List.mem_singleton.1 hc]; exact hb, List.pairwise_cons.2 ⟨fun c hc => by rw [List.mem_singleton.1 hc]; exact h, List.pairwise_singleton _ _⟩⟩
    obtain ⟨j1, j2⟩ := joined_rt ok
    have e : putL [a] b = joinedL [a, b] := rt_ext p1 j1 fun x t hx => by
      rw [p2 x t hx, j2, has_cons a [b], has_one, has_one]
      exact ⟨fun hh => hh.elim .inr fun hh => .inl hh.1, fun hh => hh.elim (fun hh => .inr ⟨hh, hd x hh.1⟩) .inl⟩
    rw [e, two_pages fa fb h]
  · have ok : Ok [b, a] := ⟨fun c hc => by rcases List.mem_cons.1 hc with rfl | hc; exact hb; rw [List.mem_singleton.1 hc]; exact ha, List.pairwise_cons.2 ⟨fun c hc => by rw [List.mem_singleton.1 hc]; exact h, List.pairwise_singleton _ _⟩⟩
    obtain ⟨j1, j2⟩ := joined_rt ok
    have e : putL [a] b = joinedL [b, a] := rt_ext p1 j1 fun x t hx => by
      rw [p2 x t hx, j2, has_cons b [a], has_one]
      exact ⟨fun hh => hh.elim .inl fun hh => .inr hh.1, fun hh => hh.elim .inl (fun hh => .inr ⟨hh, hd x hh.1⟩)⟩
    rw [e, two_pages fb fa h]
    congr 1
    omega
theorem apart_num {a b : Ar} (ha : formed a = true) (hb : formed b = true) (h : a.e ≤ b.s ∨ b.e ≤ a.s) : (pagesL (putL (putL [] a) b) == IntKind.i64.wrap (Int.tdiv (IntKind.i64.wrap (IntKind.i64.wrap (IntKind.i64.wrap (a.e - a.s) + b.e) - b.s)) 4096)) = true := by
  rw [apart_pages ha hb h, beq_iff_eq]
  have fa := fo.1 ha; have fb := fo.1 hb
  have := fa.lo; have := fa.hi; have := fa.lt; have := fb.lo; have := fb.hi; have := fb.lt
  have e1 : IntKind.i64.wrap (a.e - a.s) = a.e - a.s := w64_id (by unfold In64; omega)
  have e2 : IntKind.i64.wrap (a.e - a.s + b.e) = a.e - a.s + b.e := w64_id (by unfold In64; omega)
  have e3 : IntKind.i64.wrap (a.e - a.s + b.e - b.s) = a.e - a.s + b.e - b.s := w64_id (by unfold In64; omega)
  rw [e1, e2, e3, tdiv_pos (by omega)]
  exact (w64_id (by unfold In64; omega)).symm
theorem undone1 {x : List Ar} (hx : Rt x) {a : Ar} (ha : formed a = true) : sameL (cutL (putL x a) a.s a.e) (cutL x a.s a.e) = true := by
  rw [sameL_iff]
  have fa := fo.1 ha
  obtain ⟨a1, a2⟩ := put_spec hx fa
  obtain ⟨i1, i2⟩ := fo_in fa
  obtain ⟨c1, c2⟩ := cut_spec a1 i1 i2
  obtain ⟨d1, d2⟩ := cut_spec hx i1 i2
  refine rt_ext c1 d1 fun y t hy => ?_
  rw [c2 y t hy, d2 y t hy, a2 y t hy, touch_ar fa hy]
  constructor
  · rintro ⟨h1 | h1, h2⟩
    · exact (h2 h1.1).elim
    · exact ⟨h1.1, h2⟩
  · rintro ⟨h1, h2⟩
    exact ⟨.inr ⟨h1, h2⟩, h2⟩
theorem undone2 {x : List Ar} (hx : Rt x) {a : Ar} (ha : formed a = true) : sameL (putL (cutL x a.s a.e) a) (putL x a) = true := by
  rw [sameL_iff]
  have fa := fo.1 ha
  obtain ⟨i1, i2⟩ := fo_in fa
  obtain ⟨d1, d2⟩ := cut_spec hx i1 i2
  obtain ⟨a1, a2⟩ := put_spec hx fa
  obtain ⟨c1, c2⟩ := put_spec d1 fa
  refine rt_ext c1 a1 fun y t hy => ?_
  rw [c2 y t hy, a2 y t hy, d2 y t hy, touch_ar fa hy]
  refine or_congr_right ⟨fun h => ⟨h.1.1, h.2⟩, fun h => ⟨⟨h.1, h.2⟩, h.2⟩⟩
theorem twice1 {x : List Ar} (hx : Rt x) {a : Ar} (ha : formed a = true) : sameL (putL (putL x a) a) (putL x a) = true := by
  rw [sameL_iff]
  have fa := fo.1 ha
  obtain ⟨a1, a2⟩ := put_spec hx fa
  obtain ⟨c1, c2⟩ := put_spec a1 fa
  refine rt_ext c1 a1 fun y t hy => ?_
  rw [c2 y t hy, a2 y t hy]
  constructor
  · rintro (h | ⟨h | h, _⟩)
    · exact .inl h
    · exact .inl h
    · exact .inr h
  · rintro (h | h)
    · exact .inl h
    · exact .inr ⟨.inr h, h.2⟩
theorem twice2 {x : List Ar} (hx : Rt x) {lo hi : Int} (h1 : In64 lo) (h2 : In64 hi) : sameL (cutL (cutL x lo hi) lo hi) (cutL x lo hi) = true := by
  rw [sameL_iff]
  obtain ⟨a1, a2⟩ := cut_spec hx h1 h2
  obtain ⟨c1, c2⟩ := cut_spec a1 h1 h2
  refine rt_ext c1 a1 fun y t hy => ?_
  rw [c2 y t hy, a2 y t hy]
  exact ⟨fun h => h.1, fun h => ⟨h, h.2⟩⟩
theorem twice3 {x : List Ar} (hx : Rt x) {lo hi : Int} (h1 : In64 lo) (h2 : In64 hi) : sameL (setL (setL x lo hi 2) lo hi 2) (setL x lo hi 2) = true := by
  rw [sameL_iff]
  obtain ⟨a1, a2⟩ := set_spec hx h1 h2 (p := 2) (by decide) (by decide)
  obtain ⟨c1, c2⟩ := set_spec a1 h1 h2 (p := 2) (by decide) (by decide)
  refine rt_ext c1 a1 fun y t hy => ?_
  rw [c2 y t hy]
  constructor
  · rintro (h | ⟨t0, ⟨h, h3⟩, rfl⟩)
    · exact h.1
    · rcases (a2 y t0 hy).1 h with h4 | ⟨t1, h4, rfl⟩
      · exact (h4.2 h3).elim
      · exact (a2 y _ hy).2 (.inr ⟨t1, h4, rfl⟩)
  · intro h
    rcases (a2 y t hy).1 h with h4 | ⟨t1, h4, rfl⟩
    · exact .inl ⟨h, h4.2⟩
    · exact .inr ⟨_, ⟨h, h4.2⟩, rfl⟩
end Go.Proofs.Ytbcicjmepojlnaa.Eng
