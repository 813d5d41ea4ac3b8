/- Texts of this work, laid together: symbolic execution over the model, contracts of the program's functions, what they come to; conditions: as each says. -/
import Derived.Test.YtbcicjmepojlnaaGreatPkGAR
import Derived.Test.YtbcicjmepojlnaaGreatPkGAU
/- Covered, found, faults page by page; the reference's protecting; no condition but those typed. -/
namespace Go.Proofs.YtbcicjmepojlnaaGreat.Eng
open Go Go.RowKit
set_option autoImplicit false
set_option linter.unusedSimpArgs false
set_option linter.unusedVariables false
theorem covF_spec : ∀ {W : List Ar} {at_ hi : Int}, Ok W → at_ % 4096 = 0 → (∀ a ∈ W, at_ ≤ a.s) → (∀ a ∈ W, a.s < hi) → (covF W at_ hi = true ↔ ∀ x, x % 4096 = 0 → at_ ≤ x → x < hi → ∃ t, Has W x t)
  | [], at_, hi, _, h0, _, _ => by
    unfold covF
    rw [decide_eq_true_eq]
    constructor
    · intro h x _ h1 h2; omega
    · intro h
      by_cases h1 : hi ≤ at_
      · exact h1
      · obtain ⟨t, ht⟩ := h at_ h0 (Int.le_refl _) (by omega)
        exact (Has.nil ht).elim
  | p :: r, at_, hi, hW, h0, h1, h2 => by
    have hp : Fo p := fo.1 (hW.1 p (List.mem_cons_self ..))
    have hr : Ok r := ⟨fun a ha => hW.1 a (List.mem_cons_of_mem _ ha), (List.pairwise_cons.1 hW.2).2⟩
    have hre : ∀ a ∈ r, p.e ≤ a.s := (List.pairwise_cons.1 hW.2).1
    have ih := covF_spec (W := r) (at_ := p.e) (hi := hi) hr hp.e0 hre (fun a ha => h2 a (List.mem_cons_of_mem _ ha))
    have a1 := h1 p (List.mem_cons_self ..)
    have a2 := h2 p (List.mem_cons_self ..)
    unfold covF
    by_cases he : p.s = at_
    · rw [if_neg (by simp [he]), ih]
      constructor
      · intro h x hx h3 h4
        by_cases h5 : x < p.e
        · exact ⟨_, (has_cons p r x _).2 (.inl ⟨⟨by omega, h5⟩, rfl⟩)⟩
        · obtain ⟨t, ht⟩ := h x hx (by omega) h4
          exact ⟨t, (has_cons p r x _).2 (.inr ht)⟩
      · intro h x hx h3 h4
        have := hp.lt
        obtain ⟨t, ht⟩ := h x hx (by omega) h4
        rcases (has_cons p r x t).1 ht with ⟨⟨_, h6⟩, _⟩ | h6
        · omega
        · exact ⟨t, h6⟩
    · rw [if_pos (by simp [he])]
      constructor
      · intro h; cases h
      · intro h
        exfalso
        obtain ⟨t, ht⟩ := h at_ h0 (Int.le_refl _) (by omega)
        rcases (has_cons p r at_ t).1 ht with ⟨⟨h6, _⟩, _⟩ | ⟨a, ha, ⟨h6, _⟩, _⟩
        · omega
        · have := hre a ha
          have := hp.lt
          omega
theorem covered_spec {l : List Ar} (hl : Rt l) {lo hi : Int} (hlo : In64 lo) : coveredL l lo hi = true ↔ lo < hi ∧ 65536 ≤ lo ∧ hi ≤ 2097152 ∧ ∀ x, x % 4096 = 0 → Touch x lo hi → ∃ t, Has l x t := by
  unfold coveredL
  by_cases h : lo < hi ∧ 65536 ≤ lo ∧ hi ≤ 2097152
  · have hr : rightL l = true := of_rt hl
    rw [if_neg (by rw [hr]; simp; omega)]
    have hP := within_parts lo hi
    have hW : Ok (withinL l lo hi) := parts_ok hP hl.ok
    have hf := floorA_eq' hlo
    rw [covF_spec hW (floor0 hlo) (fun a ha => by
      obtain ⟨b1, b2, b3⟩ := parts_in hP hl.1 ha
      have := b1.s0
      have := b2.2.1
      omega) (fun a ha => (parts_in hP hl.1 ha).2.1.2.2)]
    constructor
    · intro h2
      refine ⟨h.1, h.2.1, h.2.2, fun x hx ht => ?_⟩
      obtain ⟨t, h3⟩ := h2 x hx (by have := ht.2.1; omega) ht.2.2
      exact ⟨t, ((has_within hl.1 hx).1 h3).1⟩
    · rintro ⟨_, _, _, h2⟩ x hx h3 h4
      have ht : Touch x lo hi := ⟨h.1, by omega, h4⟩
      obtain ⟨t, h5⟩ := h2 x hx ht
      exact ⟨t, (has_within hl.1 hx).2 ⟨h5, ht⟩⟩
  · have : (!rightL l || decide (hi ≤ lo) || decide (lo < 65536) || decide (2097152 < hi)) = true := by
      simp only [Bool.or_eq_true, decide_eq_true_eq]
      omega
    rw [if_pos this]
    constructor
    · intro h; cases h
    · rintro ⟨h1, h2, h3, _⟩; exact absurd ⟨h1, h2, h3⟩ h
/-! ### Pages of right lists -/
theorem of_has {l : List Ar} (hl : Ok l) {q : Nat} (h0 : 16 ≤ q) (hq : q < 512) : (nthP (ofL l) q).is = true → Has l (4096 * q) (nthP (ofL l) q).t := fun h =>
  ((of_spec hl).1 _ _ (by omega)).1 ⟨q, rfl, h0, hq, h, rfl⟩
theorem has_of {l : List Ar} (hl : Ok l) {q : Nat} {t : At} (h : Has l (4096 * q) t) : (nthP (ofL l) q).is = true ∧ (nthP (ofL l) q).t = t := by
  obtain ⟨q', he, _, _, h1, h2⟩ := ((of_spec hl).1 _ _ (by omega)).2 h
  obtain rfl : q = q' := by omega
  exact ⟨h1, h2⟩
theorem in_page {a : Ar} (h : Fo a) {x : Int} : inA a x ↔ inA a (x - x % 4096) := by
  have := h.s0
  have := h.e0
  unfold inA
  omega
theorem idx_spec {l : List Ar} (hl : Fm l) (x : Int) : (idxI l x ≥ 0 ↔ ∃ a ∈ l, inA a x) ∧ (idxI l x ≥ 0 → idxL l x < l.length ∧ inA (nthA l (idxL l x)) x) := by
  have hh : ∀ i, i < l.length → (hasA (nthA l i) x = true ↔ inA (nthA l i) x) := fun i hi => by
    unfold hasA inA
    rw [hl _ (nthA_mem hi)]
    simp
  by_cases hex : ∃ i, i < l.length ∧ hasA (nthA l i) x = true
  · obtain ⟨i, hi, hy⟩ := hex
    have hsome : ((List.range l.length).find? fun i => hasA (nthA l i) x).isSome = true := by
      rw [List.find?_isSome]
      exact ⟨i, List.mem_range.2 hi, hy⟩
    obtain ⟨j, hj⟩ := Option.isSome_iff_exists.1 hsome
    have hj2 := List.find?_some hj
    have hj3 := List.mem_range.1 (List.mem_of_find?_eq_some hj)
    have e : idxL l x = j := by unfold idxL; rw [hj]; rfl
    have e2 : idxI l x = (j : Int) := by unfold idxI; rw [e, if_pos (by simpa using hj3)]
    rw [e2, e]
    have hin := (hh j hj3).1 hj2
    exact ⟨⟨fun _ => ⟨_, nthA_mem hj3, hin⟩, fun _ => by omega⟩, fun _ => ⟨hj3, hin⟩⟩
  · have hn : ∀ j : Nat, j < l.length → hasA (nthA l j) x = false := fun j hj => by
      cases hb : hasA (nthA l j) x
      · rfl
      · exact absurd ⟨j, hj, hb⟩ hex
    rw [idx_no hn]
    refine ⟨⟨fun h => by omega, ?_⟩, fun h => by omega⟩
    rintro ⟨a, ha, hin⟩
    obtain ⟨i, hi, rfl⟩ := List.getElem_of_mem ha
    rw [← nthA_elem hi] at hin
    have := (hh i hi).2 hin
    rw [hn i hi] at this
    cases this
theorem found_spec {l : List Ar} (hl : Rt l) (x : Int) : (foundL l x = true ↔ ∃ a ∈ l, inA a x) ∧ (foundL l x = true → findL l x ∈ l ∧ inA (findL l x) x) := by
  have hr : rightL l = true := of_rt hl
  obtain ⟨h1, h2⟩ := idx_spec hl.1 x
  have e : foundL l x = true ↔ idxI l x ≥ 0 := by
    unfold foundL
    rw [hr, Bool.and_true, decide_eq_true_eq]
  refine ⟨e.trans h1, fun hf => ?_⟩
  obtain ⟨h3, h4⟩ := h2 (e.1 hf)
  unfold findL
  rw [if_pos hf]
  exact ⟨nthA_mem h3, h4⟩
theorem attr_ext {a : Ar} (h : Fo a) {x : Int} (hx : inA a x) : hasA a x = true ∧ attrA a x = ext a (x - x % 4096) := by
  have h1 : hasA a x = true := by
    unfold hasA
    rw [fo.2 h]
    have := hx.1
    have := hx.2
    simp
    omega
  refine ⟨h1, ?_⟩
  have := hx.1
  have := hx.2
  have := h.lo
  have := h.hi
  unfold attrA ext
  rw [if_pos h1, tmod_pos (by omega), w64_id (show In64 (x - x % 4096) by unfold In64; omega), offP_eq h (by omega) (by omega)]
theorem fault_page {l : List Ar} (hl : Rt l) {x : Int} (h0 : 65536 ≤ x) (h1 : x < 2097152) : (nthP (ofL l) (x / 4096).toNat).is = foundL l x ∧ (foundL l x = true → (nthP (ofL l) (x / 4096).toNat).t = attrA (findL l x) x) := by
  obtain ⟨f1, f2⟩ := found_spec hl x
  have hq : (4096 * ((x / 4096).toNat : Int)) = x - x % 4096 := by omega
  cases hf : foundL l x with
  | true =>
    obtain ⟨g1, g2⟩ := f2 hf
    have hfo := fo.1 (hl.1 _ g1)
    have hh : Has l (4096 * ((x / 4096).toNat : Int)) (attrA (findL l x) x) := ⟨_, g1, by rw [hq]; exact (in_page hfo).1 g2, by rw [hq, (attr_ext hfo g2).2]⟩
    obtain ⟨e1, e2⟩ := has_of hl.ok hh
    exact ⟨e1, fun _ => e2⟩
  | false =>
    refine ⟨?_, fun h => by cases h⟩
    cases hi : (nthP (ofL l) (x / 4096).toNat).is with
    | false => rfl
    | true =>
      obtain ⟨a, ha, h2, _⟩ := of_has hl.ok (by omega) (by omega) hi
      rw [hq] at h2
      have := f1.2 ⟨a, ha, (in_page (fo.1 (hl.1 a ha))).2 h2⟩
      rw [hf] at this
      cases this
/-! ### A fault's reads, its bits -/
theorem adr_q {x : Int} (h1 : decide (x < 65536) = false) (h2 : decide (2097152 ≤ x) = false) : IntKind.i64.wrap (Int.tdiv x 4096) = (((x / 4096).toNat : Nat) : Int) ∧ (x / 4096).toNat < 512 := by
  have a1 := of_decide_eq_false h1
  have a2 := of_decide_eq_false h2
  have e : w64 (Int.tdiv x 4096) = x / 4096 := by
    rw [tdiv_pos (by omega)]
    exact w64_id (by unfold In64; omega)
  exact ⟨e.trans (by omega), by omega⟩
theorem adr_in {x : Int} (h1 : decide (x < 65536) = false) (h2 : decide (2097152 ≤ x) = false) : (0 : Int) ≤ IntKind.i64.wrap (Int.tdiv x 4096) ∧ IntKind.i64.wrap (Int.tdiv x 4096) < ((512 : Nat) : Int) := by
  obtain ⟨e, h⟩ := adr_q h1 h2
  rw [e]
  exact page_ix h
theorem adr_is {s : List Pg} (hs : s.length = 512) {x : Int} (h1 : decide (x < 65536) = false) (h2 : decide (2097152 ≤ x) = false) : (encS s)[0 + (IntKind.i64.wrap (Int.tdiv x 4096)).toNat * 5]? = some (.v (.bool (nthP s (x / 4096).toNat).is)) := by
  obtain ⟨e, h⟩ := adr_q h1 h2
  rw [e]
  exact page_is' hs h
theorem adr_attr {s : List Pg} (hs : s.length = 512) {x : Int} (h1 : decide (x < 65536) = false) (h2 : decide (2097152 ≤ x) = false) : takeM (encS s) (0 + (IntKind.i64.wrap (Int.tdiv x 4096)).toNat * 5 + 1) 4 = some [.v (.int .i64 (nthP s (x / 4096).toNat).t.p), .v (.bool (nthP s (x / 4096).toNat).t.sh), .v (.int .i64 (nthP s (x / 4096).toNat).t.b), .v (.int .i64 (nthP s (x / 4096).toNat).t.o)] := by
  obtain ⟨e, h⟩ := adr_q h1 h2
  rw [e]
  exact page_attr' hs h
theorem adr_isZ {s : List Pg} (hs : s.length = 512) {x : Int} (h1 : decide (x < 65536) = false) (h2 : decide (2097152 ≤ x) = false) : (putCells (List.replicate 512 [C.v (.bool false), .v (.int .i64 0), .v (.bool false), .v (.int .i64 0), .v (.int .i64 0)]).flatten 0 (encS s))[0 + (IntKind.i64.wrap (Int.tdiv x 4096)).toNat * 5]? = some (.v (.bool (nthP s (x / 4096).toNat).is)) := by
  rw [zero_put hs]
  exact adr_is hs h1 h2
theorem adr_attrZ {s : List Pg} (hs : s.length = 512) {x : Int} (h1 : decide (x < 65536) = false) (h2 : decide (2097152 ≤ x) = false) : takeM (putCells (List.replicate 512 [C.v (.bool false), .v (.int .i64 0), .v (.bool false), .v (.int .i64 0), .v (.int .i64 0)]).flatten 0 (encS s)) (0 + (IntKind.i64.wrap (Int.tdiv x 4096)).toNat * 5 + 1) 4 = some [.v (.int .i64 (nthP s (x / 4096).toNat).t.p), .v (.bool (nthP s (x / 4096).toNat).t.sh), .v (.int .i64 (nthP s (x / 4096).toNat).t.b), .v (.int .i64 (nthP s (x / 4096).toNat).t.o)] := by
  rw [zero_put hs]
  exact adr_attr hs h1 h2
def bitN : Nat → Int
  | 0 => 1
  | 1 => 2
  | 2 => 4
  | _ => 8
def bitBad (k p b : Int) : Bool := (Int.tmod (w64 (Int.tdiv k b)) 2 == 1) && (Int.tmod (w64 (Int.tdiv p b)) 2 == 0)
theorem bits_all : ∀ p : Fin 8, ∀ k : Fin 7, (bits .and .i64 (p.val : Int) ((k.val : Int) + 1) == ((k.val : Int) + 1)) = !(bitBad ((k.val : Int) + 1) (p.val : Int) 1 || bitBad ((k.val : Int) + 1) (p.val : Int) 2 || bitBad ((k.val : Int) + 1) (p.val : Int) 4) := by decide +kernel
theorem may_bits {a : Ar} (h : Fo a) {k : Int} (h1 : decide (k < 1) = false) (h2 : decide (7 < k) = false) : mayA a k = !(bitBad k a.p 1 || bitBad k a.p 2 || bitBad k a.p 4) := by
  have a1 := of_decide_eq_false h1
  have a2 := of_decide_eq_false h2
  have p0 := h.p0
  have p7 := h.p7
  have := bits_all ⟨a.p.toNat, by omega⟩ ⟨(k - 1).toNat, by omega⟩
  simp only at this
  rw [show ((a.p.toNat : Nat) : Int) = a.p by omega, show (((k - 1).toNat : Nat) : Int) + 1 = k by omega] at this
  unfold mayA
  rw [this, show decide (k ≥ 1) = true by rw [decide_eq_true_eq]; omega, show decide (k ≤ 7) = true by rw [decide_eq_true_eq]; omega]
  rfl
theorem mayS_rt {l : List Ar} (h : mayS l = true) : Rt l ∧ l.length ≤ 24 := by
  unfold mayS at h
  rw [Bool.and_eq_true, decide_eq_true_eq] at h
  exact ⟨rt_of h.1, by omega⟩
theorem rt_mayS {l : List Ar} (h : Rt l) (h2 : l.length ≤ 24) : mayS l = true := by
  unfold mayS
  rw [of_rt h]
  simp
  omega
theorem fault_a {l : List Ar} {c : Cl} (hm : mayS l = true) (h : decide (c.p < 1) = true ∨ decide (7 < c.p) = true) : faultN l c = errA 1 := by
  unfold faultN
  rw [if_pos]
  rcases h with h | h
  · rw [h]; simp
  · rw [show decide (c.p > 7) = true from h]; simp
theorem fault_b {l : List Ar} {c : Cl} (hm : mayS l = true) (h1 : decide (c.p < 1) = false) (h2 : decide (7 < c.p) = false) (h : decide (c.a < 65536) = true ∨ decide (2097152 ≤ c.a) = true ∨ (decide (c.a < 65536) = false ∧ decide (2097152 ≤ c.a) = false ∧ (nthP (ofL l) (c.a / 4096).toNat).is = false)) : faultN l c = errA 7 := by
  have hr := (mayS_rt hm).1
  have hf : foundL l c.a = false := by
    cases hf : foundL l c.a with
    | false => rfl
    | true =>
      obtain ⟨f1, f2⟩ := found_spec hr c.a
      obtain ⟨g1, g2, g3⟩ := f2 hf
      have hfo := fo.1 (hr.1 _ g1)
      have := hfo.lo
      have := hfo.hi
      rcases h with h | h | ⟨h3, h4, h5⟩
      · have := of_decide_eq_true h; omega
      · have := of_decide_eq_true h; omega
      · have a3 := of_decide_eq_false h3
        have a4 := of_decide_eq_false h4
        have := (fault_page hr (x := c.a) (by omega) (by omega)).1
        rw [h5, hf] at this
        cases this
  unfold faultN
  rw [if_neg (by rw [hm, h1, show decide (c.p > 7) = false from h2]; simp), if_pos (by rw [hf]; rfl)]
theorem fault_c {l : List Ar} {c : Cl} (hm : mayS l = true) (h1 : decide (c.p < 1) = false) (h2 : decide (7 < c.p) = false) (h3 : decide (c.a < 65536) = false) (h4 : decide (2097152 ≤ c.a) = false) (h5 : (nthP (ofL l) (c.a / 4096).toNat).is = true) : faultN l c = if (bitBad c.p (nthP (ofL l) (c.a / 4096).toNat).t.p 1 || bitBad c.p (nthP (ofL l) (c.a / 4096).toNat).t.p 2 || bitBad c.p (nthP (ofL l) (c.a / 4096).toNat).t.p 4) = true then errA 8 else ⟨0, 0, (nthP (ofL l) (c.a / 4096).toNat).t⟩ := by
  have hr := (mayS_rt hm).1
  have a3 := of_decide_eq_false h3
  have a4 := of_decide_eq_false h4
  obtain ⟨e1, e2⟩ := fault_page hr (x := c.a) (by omega) (by omega)
  have hf : foundL l c.a = true := by rw [← e1, h5]
  have e3 := e2 hf
  obtain ⟨g1, g2⟩ := (found_spec hr c.a).2 hf
  have hfo := fo.1 (hr.1 _ g1)
  have e4 : (nthP (ofL l) (c.a / 4096).toNat).t.p = (findL l c.a).p := by rw [e3, (attr_ext hfo g2).2]; rfl
  unfold faultN
  rw [if_neg (by rw [hm, h1, show decide (c.p > 7) = false from h2]; simp), if_neg (by rw [hf]; simp), may_bits hfo h1 h2, e3, ← e3, e4, Bool.not_not, e3]
def bitsOk (k p : Int) (i : Nat) : Prop := ∀ j : Nat, j < i → bitBad k p (bitN j) = false
theorem bits_next {k p : Int} {i : Nat} (h : bitsOk k p i) (hb : bitBad k p (bitN i) = false) : bitsOk k p (i + 1) := fun j hj => by
  by_cases hji : j = i
  · subst hji; exact hb
  · exact h j (by omega)
theorem bit_a {k p b : Int} (h : (Int.tmod (IntKind.i64.wrap (Int.tdiv k b)) 2 == 1) = false) : bitBad k p b = false := by
  unfold bitBad
  rw [show (Int.tmod (w64 (Int.tdiv k b)) 2 == 1) = false from h]
  rfl
theorem bit_b {k p b : Int} (h : (Int.tmod (IntKind.i64.wrap (Int.tdiv p b)) 2 == 0) = false) : bitBad k p b = false := by
  unfold bitBad
  rw [show (Int.tmod (w64 (Int.tdiv p b)) 2 == 0) = false from h, Bool.and_false]
theorem bit_y {k p b : Int} (h : (Int.tmod (IntKind.i64.wrap (Int.tdiv k b)) 2 == 1) = true) (h2 : (Int.tmod (IntKind.i64.wrap (Int.tdiv p b)) 2 == 0) = true) : bitBad k p b = true := by
  unfold bitBad
  rw [show (Int.tmod (w64 (Int.tdiv k b)) 2 == 1) = true from h, show (Int.tmod (w64 (Int.tdiv p b)) 2 == 0) = true from h2]
  rfl
theorem bits_end {k p : Int} (h : bitsOk k p 3) : (bitBad k p 1 || bitBad k p 2 || bitBad k p 4) = false := by
  rw [show bitBad k p 1 = false from h 0 (by decide), show bitBad k p 2 = false from h 1 (by decide), show bitBad k p 4 = false from h 2 (by decide)]
  rfl
theorem bits_bad {k p : Int} (i : Nat) (hi : i < 3) (h : bitBad k p (bitN i) = true) : (bitBad k p 1 || bitBad k p 2 || bitBad k p 4) = true := by
  obtain rfl | rfl | rfl : i = 0 ∨ i = 1 ∨ i = 2 := by omega
  · rw [show bitBad k p 1 = true from h]; rfl
  · rw [show bitBad k p 2 = true from h, Bool.or_true]; rfl
  · rw [show bitBad k p 4 = true from h, Bool.or_true]
theorem fault_d {l : List Ar} {c : Cl} (hm : mayS l = true) (h1 : decide (c.p < 1) = false) (h2 : decide (7 < c.p) = false) (h3 : decide (c.a < 65536) = false) (h4 : decide (2097152 ≤ c.a) = false) (h5 : (nthP (ofL l) (c.a / 4096).toNat).is = true) (i : Nat) (hi : i < 3) (h : bitBad c.p (nthP (ofL l) (c.a / 4096).toNat).t.p (bitN i) = true) : faultN l c = errA 8 := by
  rw [fault_c hm h1 h2 h3 h4 h5, if_pos (bits_bad i hi h)]
theorem fault_e {l : List Ar} {c : Cl} (hm : mayS l = true) (h1 : decide (c.p < 1) = false) (h2 : decide (7 < c.p) = false) (h3 : decide (c.a < 65536) = false) (h4 : decide (2097152 ≤ c.a) = false) (h5 : (nthP (ofL l) (c.a / 4096).toNat).is = true) (h : bitsOk c.p (nthP (ofL l) (c.a / 4096).toNat).t.p 3) : faultN l c = ⟨0, 0, (nthP (ofL l) (c.a / 4096).toNat).t⟩ := by
  rw [fault_c hm h1 h2 h3 h4 h5, bits_end h]
  rfl
theorem IsX.ans_ {x : An} {e v p b o : Int} {sh : Bool} {y : An} {H' : Heap} (h : x = y) (h2 : y = ⟨e, v, ⟨p, sh, b, o⟩⟩) : IsX (.val (.agg [.v (.int .i64 x.er), .v (.int .i64 x.v), .v (.int .i64 x.t.p), .v (.bool x.t.sh), .v (.int .i64 x.t.b), .v (.int .i64 x.t.o)])) (.agg [.v (.int .i64 e), .v (.int .i64 v), .v (.int .i64 p), .v (.bool sh), .v (.int .i64 b), .v (.int .i64 o)]) H' := by
  subst h h2
  exact ⟨rfl⟩
end Go.Proofs.YtbcicjmepojlnaaGreat.Eng
/- The reference's protecting, page by page; no condition but those typed. -/
namespace Go.Proofs.YtbcicjmepojlnaaGreat.Eng
open Go Go.RowKit
set_option autoImplicit false
set_option linter.unusedSimpArgs false
set_option linter.unusedVariables false
def setP (p : Int) (g : Pg) : Pg := ⟨g.is, setT p g.t⟩
def proP (p : Int) (q0 : Nat) (s : List Pg) : Nat → List Pg
  | 0 => s
  | k + 1 => (proP p q0 s k).set (q0 + k) (setP p (nthP (proP p q0 s k) (q0 + k)))
theorem proP_len (p : Int) (q0 : Nat) (s : List Pg) : ∀ k, (proP p q0 s k).length = s.length
  | 0 => rfl
  | k + 1 => List.length_set.trans (proP_len p q0 s k)
theorem proP_get (p : Int) (q0 : Nat) {s : List Pg} (hs : s.length = 512) : ∀ (k : Nat), q0 + k ≤ 512 → ∀ q : Nat, nthP (proP p q0 s k) q = if q0 ≤ q ∧ q < q0 + k then setP p (nthP s q) else nthP s q
  | 0, _, q => by rw [if_neg (by omega)]; rfl
  | k + 1, hk, q => by
    have ih := proP_get p q0 hs k (by omega)
    show nthP ((proP p q0 s k).set (q0 + k) _) q = _
    rw [nthP_set _ (by rw [proP_len, hs]; omega), ih, ih]
    by_cases h : q = q0 + k
    · subst h
      rw [if_pos rfl, if_neg (by omega), if_pos (by omega)]
    · rw [if_neg h]
      by_cases h2 : q0 ≤ q ∧ q < q0 + k
      · rw [if_pos h2, if_pos (by omega)]
      · rw [if_neg h2, if_neg (by omega)]
theorem proP_is (p : Int) (q0 : Nat) {s : List Pg} (hs : s.length = 512) {k : Nat} (hk : q0 + k ≤ 512) (q : Nat) : (nthP (proP p q0 s k) q).is = (nthP s q).is := by
  rw [proP_get p q0 hs k hk]
  split <;> rfl
def covK (s : List Pg) (q0 k : Nat) : Bool := (List.range k).all fun j => (nthP s (q0 + j)).is
theorem covK_next (s : List Pg) (q0 k : Nat) : covK s q0 (k + 1) = (covK s q0 k && (nthP s (q0 + k)).is) := by
  unfold covK
  rw [List.range_succ, List.all_append]
  simp
theorem covK_iff (s : List Pg) (q0 k : Nat) : covK s q0 k = true ↔ ∀ q, q0 ≤ q → q < q0 + k → (nthP s q).is = true := by
  unfold covK
  rw [List.all_eq_true]
  constructor
  · intro h q h1 h2
    have := h (q - q0) (List.mem_range.2 (by omega))
    rw [show q0 + (q - q0) = q by omega] at this
    exact this
  · intro h j hj
    exact h _ (by omega) (by have := List.mem_range.1 hj; omega)
theorem covK_more {s : List Pg} {q0 k n : Nat} (h : covK s q0 k = false) (hk : k ≤ n) : covK s q0 n = false := by
  cases hn : covK s q0 n with
  | false => rfl
  | true =>
    have := (covK_iff s q0 k).2 fun q h1 h2 => (covK_iff s q0 n).1 hn q h1 (by omega)
    rw [h] at this
    cases this
def errK (s : List Pg) (q0 k : Nat) : Int := if covK s q0 k = true then 0 else 7
theorem errK_iff {s : List Pg} {q0 k : Nat} : errK s q0 k = 0 ↔ covK s q0 k = true := by
  unfold errK
  split
  · rename_i h; exact ⟨fun _ => h, fun _ => rfl⟩
  · rename_i h; exact ⟨fun h2 => by omega, fun h2 => absurd h2 h⟩
theorem errK_yes {s : List Pg} {q0 k : Nat} (h : (errK s q0 k == 0) = true) (hi : (nthP s (q0 + k)).is = true) : errK s q0 k = errK s q0 (k + 1) := by
  have h1 := errK_iff.1 (beq_yes h)
  have h2 : covK s q0 (k + 1) = true := by rw [covK_next, h1, hi]; rfl
  rw [errK_iff.2 h1, errK_iff.2 h2]
theorem errK_no {s : List Pg} {q0 k : Nat} (hi : (nthP s (q0 + k)).is = false) : 7 = errK s q0 (k + 1) := by
  have h2 : covK s q0 (k + 1) = false := by rw [covK_next, hi, Bool.and_false]
  unfold errK
  rw [h2]
  rfl
theorem errK_7 {s : List Pg} {q0 k : Nat} (h : errK s q0 k ≠ 0) : errK s q0 k = 7 := by
  unfold errK at *
  split
  · rename_i h2; rw [if_pos h2] at h; exact absurd rfl h
  · rfl
/-! ### Reads and writes -/
theorem pro_ix {q0 k q1 : Nat} (h : q0 + k < q1) (h1 : q1 ≤ 512) : (0 : Int) ≤ ((q0 + k : Nat) : Int) ∧ ((q0 + k : Nat) : Int) < ((512 : Nat) : Int) := by omega
theorem pro_is {s : List Pg} (hs : s.length = 512) (p : Int) {q0 k : Nat} (hk : q0 + k < 512) : (encS (proP p q0 s k))[0 + ((q0 + k : Nat) : Int).toNat * 5]? = some (.v (.bool (nthP s (q0 + k)).is)) := by
  rw [page_is' (by rw [proP_len, hs]) hk, proP_is p q0 hs (by omega)]
theorem page_put_p {s : List Pg} {i : Nat} (p : Int) (h : i < s.length) : putCells (encS s) (i * 5 + 1) [.v (.int .i64 p)] = encS (s.set i (setP p (nthP s i))) :=
  enc_put encP_len s i (nthP s i) (setP p (nthP s i)) 1 _ (nthP_get h) (by decide) rfl
theorem pro_put {s : List Pg} (hs : s.length = 512) (p : Int) {q0 k : Nat} (hk : q0 + k < 512) : putCells (encS (proP p q0 s k)) (0 + ((q0 + k : Nat) : Int).toNat * 5 + 1) [.v (.int .i64 p)] = encS (proP p q0 s (k + 1)) := by
  rw [Int.toNat_natCast, Nat.zero_add]
  exact page_put_p p (by rw [proP_len, hs]; exact hk)
theorem pro_fit {s : List Pg} (hs : s.length = 512) (p : Int) {q0 k : Nat} (hk : q0 + k < 512) : 0 + ((q0 + k : Nat) : Int).toNat * 5 + 1 + 1 ≤ (encS (proP p q0 s k)).length := by
  rw [encS_len, proP_len, hs, Int.toNat_natCast]
  omega
theorem pro_q {a : Int} (h0 : 0 ≤ a) (h : a ≤ 2097152) : IntKind.i64.wrap (Int.tdiv a 4096) = (((a / 4096).toNat : Nat) : Int) ∧ (a / 4096).toNat ≤ 512 := by
  have e : w64 (Int.tdiv a 4096) = a / 4096 := by
    rw [tdiv_pos h0]
    exact w64_id (by unfold In64; omega)
  exact ⟨e.trans (by omega), by omega⟩
theorem pro_lt {x : Int} {m q1 : Nat} (w1 : x = (q1 : Int)) (h : decide ((m : Int) < x) = true) : m < q1 := by
  have := of_decide_eq_true h
  omega
theorem pro_ge {x : Int} {m q1 : Nat} (w1 : x = (q1 : Int)) (h : decide ((m : Int) < x) = false) : q1 ≤ m := by
  have := of_decide_eq_false h
  omega
/-! ### What comes about -/
theorem cov_pages {l : List Ar} (hl : Rt l) {lo hi : Int} (h : RgOk lo hi) : coveredL l lo hi = covK (ofL l) (lo / 4096).toNat ((hi / 4096).toNat - (lo / 4096).toNat) := by
  obtain ⟨h1, h2, h3, h4, h5⟩ := h
  rw [Bool.eq_iff_iff, covered_spec hl (by unfold In64; omega), covK_iff]
  constructor
  · rintro ⟨_, _, _, h6⟩ q g1 g2
    obtain ⟨t, ht⟩ := h6 (4096 * q) (by omega) ⟨h3, by omega, by omega⟩
    exact (has_of hl.ok ht).1
  · intro h6
    refine ⟨h3, h1, h2, fun x hx ht => ?_⟩
    have h7 := h6 (x / 4096).toNat (by have := ht.2.1; omega) (by have := ht.2.2; omega)
    have h8 := of_has hl.ok (q := (x / 4096).toNat) (by have := ht.2.1; omega) (by have := ht.2.2; omega) h7
    rw [show (4096 * ((x / 4096).toNat : Int)) = x by have := ht.2.1; omega] at h8
    exact ⟨_, h8⟩
theorem of_low {l : List Ar} (hl : Fm l) {q : Nat} (hq : q < 512) (h : q < 16) (hi : (nthP (ofL l) q).is = true) : False := by
  have e : nthP (ofL l) q = nthP noS q := (paint_not of_paints hq l noS hl noS_len (fun a ha hin => by have := (fo.1 (hl a ha)).lo; have := hin.1; omega)).1
  rw [e, noS_get] at hi
  cases hi
theorem good_of {l : List Ar} (hl : Rt l) : GoodS (ofL l) := ⟨ofL_len l, fun q hq hi => by
  by_cases h16 : 16 ≤ q
  · obtain ⟨a, ha, h1, h2⟩ := of_has hl.ok h16 hq hi
    rw [← h2]
    exact ⟨h16, ext_good (fo.1 (hl.1 a ha)) h1 (by omega)⟩
  · exact (of_low hl.1 hq (by omega) hi).elim⟩
theorem pro_list {l : List Ar} (hl : Rt l) {lo hi p : Int} (h : RgOk lo hi) (h0 : 0 ≤ p) (h7 : p ≤ 7) : listS (proP p (lo / 4096).toNat (ofL l) ((hi / 4096).toNat - (lo / 4096).toNat)) = setL l lo hi p := by
  obtain ⟨h1, h2, h3, h4, h5⟩ := h
  have hg := good_of hl
  have hq : (lo / 4096).toNat + ((hi / 4096).toNat - (lo / 4096).toNat) ≤ 512 := by omega
  have get := proP_get p (lo / 4096).toNat hg.1 _ hq
  obtain ⟨s1, s2⟩ := set_spec hl (lo := lo) (hi := hi) (p := p) (by unfold In64; omega) (by unfold In64; omega) h0 h7
  have hg2 : GoodS (proP p (lo / 4096).toNat (ofL l) ((hi / 4096).toNat - (lo / 4096).toNat)) := ⟨by rw [proP_len, hg.1], fun q hq' hi' => by
    rw [proP_is p _ hg.1 hq] at hi'
    obtain ⟨g1, g2⟩ := hg.2 q hq' hi'
    refine ⟨g1, ?_⟩
    rw [get q]
    split
    · exact ⟨h0, h7, g2.b0, g2.b9, g2.oz, g2.om⟩
    · exact g2⟩
  obtain ⟨l1, l2⟩ := listS_spec hg2
  refine rt_ext l1 s1 fun x t hx => ?_
  rw [l2 x t hx, s2 x t hx]
  constructor
  · rintro ⟨q, rfl, g1, g2, g3, g4⟩
    rw [proP_is p _ hg.1 hq] at g3
    have hh := of_has hl.ok g1 g2 g3
    rw [get q] at g4
    by_cases hin : (lo / 4096).toNat ≤ q ∧ q < (lo / 4096).toNat + ((hi / 4096).toNat - (lo / 4096).toNat)
    · rw [if_pos hin] at g4
      exact .inr ⟨_, ⟨hh, h3, by omega, by omega⟩, g4.symm⟩
    · rw [if_neg hin] at g4
      refine .inl ⟨g4 ▸ hh, fun ht => hin ?_⟩
      have := ht.2.1
      have := ht.2.2
      omega
  · have rng : ∀ t0, Has l x t0 → ∃ q : Nat, x = 4096 * (q : Int) ∧ 16 ≤ q ∧ q < 512 := fun t0 ht0 => by
      have := has_range hl.1 ht0
      exact ⟨(x / 4096).toNat, by omega, by omega, by omega⟩
    rintro (⟨g1, g2⟩ | ⟨t0, ⟨g1, g2⟩, rfl⟩)
    · obtain ⟨q, rfl, q1, q2⟩ := rng _ g1
      obtain ⟨e1, e2⟩ := has_of hl.ok g1
      refine ⟨q, rfl, q1, q2, by rw [proP_is p _ hg.1 hq]; exact e1, ?_⟩
      rw [get q, if_neg, e2]
      intro hin
      exact g2 ⟨h3, by omega, by omega⟩
    · obtain ⟨q, rfl, q1, q2⟩ := rng _ g1
      obtain ⟨e1, e2⟩ := has_of hl.ok g1
      refine ⟨q, rfl, q1, q2, by rw [proP_is p _ hg.1 hq]; exact e1, ?_⟩
      have := g2.2.1
      have := g2.2.2
      rw [get q, if_pos (by omega), ← e2]
      rfl
/-! ### What is asked wrongly -/
theorem wr_range {l : List Ar} {c : Cl} (hm : mayS l = true) (h : (rangeE c.a c.n == 0) = false) : wrE l c = rangeE c.a c.n := by
  unfold wrE
  rw [if_neg (by rw [hm]; simp), if_neg (by rw [h]; simp)]
theorem wr_prot {l : List Ar} {c : Cl} (hm : mayS l = true) (h : (rangeE c.a c.n == 0) = true) (hp : decide (c.p < 0) = true ∨ decide (7 < c.p) = true) : wrE l c = 1 := by
  have e : protE c.p = 1 := by
    unfold protE
    rw [if_pos]
    rcases hp with hp | hp
    · rw [hp]; rfl
    · rw [show decide (c.p > 7) = true from hp, Bool.or_true]
  unfold wrE
  rw [if_neg (by rw [hm]; simp), if_pos h, e]
  rfl
theorem wr_cov {l : List Ar} {c : Cl} (hm : mayS l = true) (h : (rangeE c.a c.n == 0) = true) (h1 : decide (c.p < 0) = false) (h2 : decide (7 < c.p) = false) : wrE l c = if coveredL l (rangeLo c.a c.n) (rangeHi c.a c.n) = true then 0 else 7 := by
  have e : protE c.p = 0 := by
    unfold protE
    rw [h1, show decide (c.p > 7) = false from h2]
    rfl
  unfold wrE
  rw [if_neg (by rw [hm]; simp), if_pos h, e]
  rfl
theorem pro_bad {l : List Ar} {c : Cl} {e : Int} (h : wrE l c = e) (he : e ≠ 0) : protN l c = errA e ∧ protL l c = l ∧ ((protN l c).er != 0) = true := by
  have h2 : (wrE l c != 0) = true := by rw [h]; simpa using he
  have h3 : protN l c = errA e := by unfold protN; rw [if_pos h2, h]
  refine ⟨h3, by unfold protL; rw [if_pos h2], ?_⟩
  rw [h3]
  simpa [errA] using he
theorem pro_ok {l : List Ar} {c : Cl} (hm : mayS l = true) (h : wrE l c = 0) : protN l c = keptN (setL l (rangeLo c.a c.n) (rangeHi c.a c.n) c.p) 0 ∧ protL l c = keptL l (setL l (rangeLo c.a c.n) (rangeHi c.a c.n) c.p) := by
  have h2 : ¬ (wrE l c != 0) = true := by rw [h]; simp
  have h3 : protS l c = setL l (rangeLo c.a c.n) (rangeHi c.a c.n) c.p := by
    unfold protS wrX
    rw [if_neg (by rw [hm]; simp), if_neg (by rw [hm]; simp)]
  exact ⟨by unfold protN; rw [if_neg h2, h3], by unfold protL; rw [if_neg h2, h3]⟩
theorem kept_no {was now : List Ar} {v : Int} (h : decide ((24 : Int) < (now.length : Int)) = true) : keptL was now = was ∧ keptN now v = errA 9 := ⟨if_pos h, if_pos h⟩
theorem kept_yes {was now : List Ar} {v : Int} (h : decide ((24 : Int) < (now.length : Int)) = false) : keptL was now = now ∧ keptN now v = okA v := ⟨if_neg (by rw [h]; simp), if_neg (by rw [h]; simp)⟩
section
variable {l : List Ar} {c : Cl} {q0 q1 k : Nat}
theorem pro_wr (hm : mayS l = true) (hr : rangeE c.a c.n = 0) (h1 : decide (c.p < 0) = false) (h2 : decide (7 < c.p) = false) (e0 : q0 = (rangeLo c.a c.n / 4096).toNat) (e1 : q1 = (rangeHi c.a c.n / 4096).toNat) : wrE l c = if covK (ofL l) q0 (q1 - q0) = true then 0 else 7 := by
  rw [wr_cov hm (by rw [hr]; rfl) h1 h2, cov_pages (mayS_rt hm).1 (range_ok hr).1, e0, e1]
theorem pro_e7 (hm : mayS l = true) (hr : rangeE c.a c.n = 0) (h1 : decide (c.p < 0) = false) (h2 : decide (7 < c.p) = false) (e0 : q0 = (rangeLo c.a c.n / 4096).toNat) (e1 : q1 = (rangeHi c.a c.n / 4096).toNat) (hk : q0 + k ≤ q1) (h : errK (ofL l) q0 k ≠ 0) : errK (ofL l) q0 k = 7 ∧ protN l c = errA 7 ∧ protL l c = l ∧ ((protN l c).er != 0) = true := by
  refine ⟨errK_7 h, pro_bad ?_ (by decide)⟩
  have hc : covK (ofL l) q0 k = false := by
    cases hc : covK (ofL l) q0 k with
    | false => rfl
    | true => exact absurd (errK_iff.2 hc) h
  rw [pro_wr hm hr h1 h2 e0 e1, covK_more hc (by omega)]
  rfl
theorem pro_e0 (hm : mayS l = true) (hr : rangeE c.a c.n = 0) (h1 : decide (c.p < 0) = false) (h2 : decide (7 < c.p) = false) (e0 : q0 = (rangeLo c.a c.n / 4096).toNat) (e1 : q1 = (rangeHi c.a c.n / 4096).toNat) (hk : q0 + k = q1) (h : errK (ofL l) q0 k = 0) : protN l c = keptN (listS (proP c.p q0 (ofL l) k)) 0 ∧ protL l c = keptL l (listS (proP c.p q0 (ofL l) k)) := by
  have hc := errK_iff.1 h
  have hkk : k = q1 - q0 := by omega
  have hw : wrE l c = 0 := by rw [pro_wr hm hr h1 h2 e0 e1, ← hkk, hc]; rfl
  have a1 := of_decide_eq_false h1
  have a2 := of_decide_eq_false h2
  have hl := pro_list (mayS_rt hm).1 (range_ok hr).1 (p := c.p) (by omega) (by omega)
  rw [← e0, ← e1, ← hkk] at hl
  rw [hl]
  exact pro_ok hm hw
theorem pro_same (hm : mayS l = true) (hr : rangeE c.a c.n = 0) (h1 : decide (c.p < 0) = false) (h2 : decide (7 < c.p) = false) (e0 : q0 = (rangeLo c.a c.n / 4096).toNat) (e1 : q1 = (rangeHi c.a c.n / 4096).toNat) (hk : q0 + k = q1) (h : errK (ofL l) q0 k = 0) (hn : decide ((24 : Int) < ((listS (proP c.p q0 (ofL l) k)).length : Int)) = true) : protN l c = errA 9 ∧ ((protN l c).er != 0) = true := by
  have := (pro_e0 hm hr h1 h2 e0 e1 hk h).1
  rw [(kept_no (was := l) hn).2] at this
  exact ⟨this, by rw [this]; rfl⟩
theorem pro_new (hm : mayS l = true) (hr : rangeE c.a c.n = 0) (h1 : decide (c.p < 0) = false) (h2 : decide (7 < c.p) = false) (e0 : q0 = (rangeLo c.a c.n / 4096).toNat) (e1 : q1 = (rangeHi c.a c.n / 4096).toNat) (hk : q0 + k = q1) (h : errK (ofL l) q0 k = 0) (hn : decide ((24 : Int) < ((listS (proP c.p q0 (ofL l) k)).length : Int)) = false) : protN l c = okA 0 ∧ ((protN l c).er != 0) = false ∧ listS (proP c.p q0 (ofL l) k) = protL l c := by
  obtain ⟨g1, g2⟩ := pro_e0 hm hr h1 h2 e0 e1 hk h
  rw [(kept_yes (was := l) hn).2] at g1
  rw [(kept_yes (v := 0) (was := l) hn).1] at g2
  exact ⟨g1, by rw [g1]; rfl, g2.symm⟩
end
end Go.Proofs.YtbcicjmepojlnaaGreat.Eng
