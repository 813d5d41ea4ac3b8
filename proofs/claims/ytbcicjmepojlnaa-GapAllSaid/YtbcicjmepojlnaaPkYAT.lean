/- Texts of this work, laid together: symbolic execution over the model, contracts of the program's functions, what they come to; conditions: as each says. -/
import Derived.Test.YtbcicjmepojlnaaPkYAK
import Derived.Test.YtbcicjmepojlnaaPkYAL
import Derived.Test.YtbcicjmepojlnaaPkYAO
import Derived.Test.YtbcicjmepojlnaaPkYAQ
import Derived.Test.YtbcicjmepojlnaaPkYAR
import Derived.Test.YtbcicjmepojlnaaPkYAS
/- Pages of lists and lists of pages: what the reference's Of, List, Made come to, page by page; no condition but those typed. -/
namespace Go.Proofs.Ytbcicjmepojlnaa.Eng
open Go Go.RowKit
set_option autoImplicit false
set_option linter.unusedSimpArgs false
set_option linter.unusedVariables false
structure GoodAt (t : At) : Prop where
  p0 : 0 ≤ t.p
  p7 : t.p ≤ 7
  b0 : 0 ≤ t.b
  b9 : t.b ≤ 9
  oz : t.b = 0 → t.o = 0
  om : t.b ≠ 0 → t.o % 4096 = 0 ∧ 0 ≤ t.o ∧ t.o ≤ 1099511627776 - 4096
def GoodS (s : List Pg) : Prop := s.length = 512 ∧ ∀ q : Nat, q < 512 → (nthP s q).is = true → 16 ≤ q ∧ GoodAt (nthP s q).t
def PHas (s : List Pg) (x : Int) (t : At) : Prop := ∃ q : Nat, x = 4096 * q ∧ 16 ≤ q ∧ q < 512 ∧ (nthP s q).is = true ∧ (nthP s q).t = t
theorem ext_good {a : Ar} (h : Fo a) {x : Int} (hx : inA a x) (h0 : x % 4096 = 0) : GoodAt (ext a x) := by
  have := h.s0; have := h.e0; have := h.lo; have := h.hi; have h1 := hx.1; have h2 := hx.2
  refine ⟨h.p0, h.p7, h.b0, h.b9, fun hb => if_pos hb, fun hb => ?_⟩
  have hb' : a.b ≠ 0 := hb
  have := h.om hb'
  show offP a x % 4096 = 0 ∧ 0 ≤ offP a x ∧ offP a x ≤ _
  unfold offP
  rw [if_neg hb']
  omega
theorem after_ext {z : Ar} (h : Fo z) {x : Int} (hx : inA z x) (h0 : x % 4096 = 0) {t : At} : afterA (ext z x) t = true ↔ ext z (x + 4096) = t := by
  have := h.s0; have := h.e0; have := h.lo; have := h.hi; have h1 := hx.1; have h2 := hx.2
  rw [after_iff]
  obtain ⟨t1, t2, t3, t4⟩ := t
  show z.p = t1 ∧ z.sh = t2 ∧ z.b = t3 ∧ (if z.b > 0 then w64 (offP z x + 4096) else offP z x) = t4 ↔ ext z (x + 4096) = ⟨t1, t2, t3, t4⟩
  unfold ext
  simp only [At.mk.injEq]
  refine and_congr_right fun _ => and_congr_right fun _ => and_congr_right fun _ => ?_
  have hb0 := h.b0
  by_cases hb : z.b = 0
  · rw [if_neg (by omega)]
    unfold offP
    rw [if_pos hb, if_pos hb]
  · have := h.om hb
    rw [if_pos (by omega)]
    unfold offP
    rw [if_neg hb, if_neg hb, w64_id (by unfold In64; omega)]
    constructor <;> intro h <;> omega
/-! ### List -/
theorem pageAr_fo {m : Nat} (h0 : 16 ≤ m) (h : m < 512) {t : At} (ht : GoodAt t) : Fo (pageAr m t) := by
  unfold pageAr
  exact ⟨by show (4096 * (m : Int)) % 4096 = 0; omega, by show (4096 * ((m : Int) + 1)) % 4096 = 0; omega, by show (65536 : Int) ≤ 4096 * m; omega, by show 4096 * ((m : Int) + 1) ≤ 2097152; omega, by show 4096 * (m : Int) < 4096 * ((m : Int) + 1); omega,
    ht.p0, ht.p7, ht.b0, ht.b9, ht.oz, fun hb => by have := ht.om hb; show t.o % 4096 = 0 ∧ 0 ≤ t.o ∧ t.o ≤ 1099511627776 - (4096 * ((m : Int) + 1) - 4096 * (m : Int)); omega⟩
theorem pageAr_ext {m : Nat} {t : At} (ht : GoodAt t) : ext (pageAr m t) (4096 * m) = t := by
  unfold ext pageAr offP
  obtain ⟨p, sh, b, o⟩ := t
  simp only [At.mk.injEq, true_and]
  split
  · rename_i hb; exact (ht.oz hb).symm
  · omega
theorem listN_spec {s : List Pg} (hs : GoodS s) : ∀ n : Nat, n ≤ 496 → Rt (listN s n) ∧ (∀ a ∈ listN s n, a.e ≤ 4096 * ((16 : Int) + n)) ∧ ∀ x t, x % 4096 = 0 → (Has (listN s n) x t ↔ PHas s x t ∧ x < 4096 * ((16 : Int) + n))
  | 0, _ => ⟨⟨fun a h => (by cases h), List.Pairwise.nil⟩, fun a h => (by cases h), fun x t _ => ⟨fun h => (Has.nil h).elim, fun ⟨⟨q, h1, h2, _⟩, h3⟩ => by exfalso; omega⟩⟩
  | n + 1, hn => by
    obtain ⟨r1, r2, r3⟩ := listN_spec hs n (by omega)
    have key : ∀ x t, PHas s x t ∧ x < 4096 * ((16 : Int) + (n + 1 : Nat)) ↔ (PHas s x t ∧ x < 4096 * ((16 : Int) + n)) ∨ (x = 4096 * ((16 : Int) + n) ∧ (nthP s (16 + n)).is = true ∧ (nthP s (16 + n)).t = t) := by
      intro x t
      constructor
      · rintro ⟨⟨q, h1, h2, h3, h4, h5⟩, h6⟩
        by_cases hq : q = 16 + n
        · subst hq; exact .inr ⟨by omega, h4, h5⟩
        · exact .inl ⟨⟨q, h1, h2, h3, h4, h5⟩, by omega⟩
      · rintro (⟨h1, h2⟩ | ⟨h1, h2, h3⟩)
        · exact ⟨h1, by omega⟩
        · exact ⟨⟨16 + n, by omega, by omega, by omega, h2, h3⟩, by omega⟩
    cases hi : (nthP s (16 + n)).is with
    | false =>
      rw [show listN s (n + 1) = listN s n from step_not hi]
      refine ⟨r1, fun a ha => by have := r2 a ha; omega, fun x t hx => ?_⟩
      rw [r3 x t hx, key, hi]
      exact ⟨.inl, fun h => h.elim id fun h => by have := h.2.1; cases this⟩
    | true =>
      have hg := (hs.2 (16 + n) (by omega) hi).2
      have fnew := pageAr_fo (m := 16 + n) (by omega) (by omega) hg
      have enew := pageAr_ext (m := 16 + n) hg
      have snew : (pageAr (16 + n) (nthP s (16 + n)).t).s = 4096 * ((16 : Int) + n) := by unfold pageAr; simp only; omega
      have enew' : (pageAr (16 + n) (nthP s (16 + n)).t).e = 4096 * ((16 : Int) + (n + 1 : Nat)) := by unfold pageAr; simp only; omega
      have app : (∀ y ∈ listN s n, goesA y (pageAr (16 + n) (nthP s (16 + n)).t) = false) → Rt (listN s n ++ [pageAr (16 + n) (nthP s (16 + n)).t]) ∧ (∀ a ∈ listN s n ++ [pageAr (16 + n) (nthP s (16 + n)).t], a.e ≤ 4096 * ((16 : Int) + (n + 1 : Nat))) ∧ ∀ x t, x % 4096 = 0 → (Has (listN s n ++ [pageAr (16 + n) (nthP s (16 + n)).t]) x t ↔ PHas s x t ∧ x < 4096 * ((16 : Int) + (n + 1 : Nat))) := by
        intro hno
        refine ⟨⟨fun c hc => ?_, List.pairwise_append.2 ⟨r1.2, List.pairwise_singleton _ _, fun y hy c hc => ?_⟩⟩, fun c hc => ?_, fun x t hx => ?_⟩
        · rcases List.mem_append.1 hc with h | h
          · exact r1.1 c h
          · rw [List.mem_singleton.1 h]; exact fo.2 fnew
        · rw [List.mem_singleton.1 hc, snew]
          exact ⟨r2 y hy, hno y hy⟩
        · rcases List.mem_append.1 hc with h | h
          · have := r2 c h; omega
          · rw [List.mem_singleton.1 h, enew']; exact Int.le_refl _
        · rw [has_app, has_one, r3 x t hx, key]
          refine or_congr_right ?_
          unfold inA
          rw [snew, enew']
          constructor
          · rintro ⟨⟨h1, h2⟩, h3⟩
            have : x = 4096 * ((16 : Int) + n) := by omega
            refine ⟨this, hi, ?_⟩
            rw [← h3, this, show 4096 * ((16 : Int) + n) = 4096 * ((16 + n : Nat) : Int) by omega, enew]
          · rintro ⟨h1, h2, h3⟩
            refine ⟨by omega, ?_⟩
            rw [h1, show 4096 * ((16 : Int) + n) = 4096 * ((16 + n : Nat) : Int) by omega, enew, h3]
      show Rt (listStep s (listN s n) (16 + n)) ∧ (∀ a ∈ listStep s (listN s n) (16 + n), _) ∧ ∀ x t, x % 4096 = 0 → (Has (listStep s (listN s n) (16 + n)) x t ↔ _)
      unfold listStep
      rw [if_pos hi]
      split
      · rename_i hl
        have hnil : listN s n = [] := List.getLast?_eq_none_iff.1 hl
        have := app (by rw [hnil]; intro y hy; cases hy)
        rw [hnil] at this
        exact this
      · rename_i z hl
        obtain ⟨d, hd⟩ := List.getLast?_eq_some_iff.1 hl
        have hz : z ∈ listN s n := by rw [hd]; exact List.mem_append.2 (.inr (List.mem_singleton.2 rfl))
        have fz := fo.1 (r1.1 z hz)
        have hze := r2 z hz
        have := fz.lt; have := fz.s0; have := fz.e0; have := fz.lo
        -- its last page
        have hlast : z.e = 4096 * ((16 : Int) + n) → (nthP s (16 + n - 1)).t = ext z (z.e - 4096) ∧ (nthP s (16 + n - 1)).is = true := by
          intro he
          have h1 : Has (listN s n) (z.e - 4096) (ext z (z.e - 4096)) := ⟨z, hz, ⟨by omega, by omega⟩, rfl⟩
          obtain ⟨⟨q, q1, q2, q3, q4, q5⟩, _⟩ := (r3 _ _ (by omega)).1 h1
          have : q = 16 + n - 1 := by omega
          subst this
          exact ⟨q5, q4⟩
        have hgo : goesOn s z (16 + n) = true ↔ z.e = 4096 * ((16 : Int) + n) ∧ ext z z.e = (nthP s (16 + n)).t := by
          unfold goesOn
          rw [Bool.and_eq_true, beq_iff_eq]
          constructor
          · rintro ⟨h1, h2⟩
            have h1' : z.e = 4096 * ((16 : Int) + n) := by omega
            rw [(hlast h1').1, after_ext fz ⟨by omega, by omega⟩ (by omega), show z.e - 4096 + 4096 = z.e by omega] at h2
            exact ⟨h1', h2⟩
          · rintro ⟨h1, h2⟩
            refine ⟨by omega, ?_⟩
            rw [(hlast h1).1, after_ext fz ⟨by omega, by omega⟩ (by omega), show z.e - 4096 + 4096 = z.e by omega]
            exact h2
        split
        · rename_i hgt
          obtain ⟨g1, g2⟩ := hgo.1 hgt
          have pd := List.pairwise_append.1 (hd ▸ r1.2)
          rw [hd, show (d ++ [z]).dropLast = d by simp]
          have fz' : Fo { z with e := 4096 * (((16 + n : Nat) : Int) + 1) } := by
            refine ⟨fz.s0, by show (4096 * (((16 + n : Nat) : Int) + 1)) % 4096 = 0; omega, fz.lo, by show 4096 * (((16 + n : Nat) : Int) + 1) ≤ 2097152; omega, by show z.s < 4096 * (((16 + n : Nat) : Int) + 1); omega, fz.p0, fz.p7, fz.b0, fz.b9, fz.oz, fun hb => ?_⟩
            have hb' : z.b ≠ 0 := hb
            have h1 := fz.om hb'
            have h2 : (nthP s (16 + n)).t.o = z.o + z.e - z.s := by rw [← g2]; unfold ext offP; simp only; rw [if_neg hb']
            have h3 : (nthP s (16 + n)).t.b = z.b := by rw [← g2]; rfl
            have h4 := hg.om (by rw [h3]; exact hb')
            show z.o % 4096 = 0 ∧ 0 ≤ z.o ∧ z.o ≤ 1099511627776 - (4096 * (((16 + n : Nat) : Int) + 1) - z.s)
            omega
          have hx' : ∀ x, ext { z with e := 4096 * (((16 + n : Nat) : Int) + 1) } x = ext z x := fun x => rfl
          refine ⟨⟨fun c hc => ?_, List.pairwise_append.2 ⟨pd.1, List.pairwise_singleton _ _, fun y hy c hc => ?_⟩⟩, fun c hc => ?_, fun x t hx => ?_⟩
          · rcases List.mem_append.1 hc with h | h
            · exact r1.1 c (by rw [hd]; exact List.mem_append.2 (.inl h))
            · rw [List.mem_singleton.1 h]; exact fo.2 fz'
          · rw [List.mem_singleton.1 hc]
            obtain ⟨h1, h2⟩ := pd.2.2 y hy z (List.mem_singleton.2 rfl)
            refine ⟨h1, ?_⟩
            cases hg' : goesA y { z with e := 4096 * (((16 + n : Nat) : Int) + 1) } with
            | false => rfl
            | true =>
              obtain ⟨k1, _, k3, k4⟩ := goes_ext.1 hg'
              have : goesA y z = true := goes_ext.2 ⟨k1, fz, k3, k4⟩
              rw [h2] at this
              cases this
          · rcases List.mem_append.1 hc with h | h
            · have := r2 c (by rw [hd]; exact List.mem_append.2 (.inl h)); omega
            · rw [List.mem_singleton.1 h]
              show 4096 * (((16 + n : Nat) : Int) + 1) ≤ 4096 * ((16 : Int) + (n + 1 : Nat))
              omega
          · have e1 := r3 x t hx
            rw [hd, has_app, has_one] at e1
            rw [has_app, has_one, key, ← e1, or_assoc]
            refine or_congr_right ?_
            unfold inA
            show (z.s ≤ x ∧ x < 4096 * (((16 + n : Nat) : Int) + 1)) ∧ ext z x = t ↔ _
            constructor
            · rintro ⟨⟨h1, h2⟩, h3⟩
              by_cases hxe : x < z.e
              · exact .inl ⟨⟨h1, hxe⟩, h3⟩
              · have : x = z.e := by omega
                exact .inr ⟨by omega, hi, by rw [← g2, ← this, h3]⟩
            · rintro (⟨⟨h1, h2⟩, h3⟩ | ⟨h1, h2, h3⟩)
              · exact ⟨⟨h1, by omega⟩, h3⟩
              · exact ⟨⟨by omega, by omega⟩, by rw [h1, ← g1, g2, h3]⟩
        · rename_i hgf
          refine app fun y hy => ?_
          cases hg' : goesA y (pageAr (16 + n) (nthP s (16 + n)).t) with
          | false => rfl
          | true =>
            exfalso
            obtain ⟨k1, _, k3, k4⟩ := goes_ext.1 hg'
            rw [snew] at k3 k4
            rw [hd] at hy
            rcases List.mem_append.1 hy with h | h
            · have pd := List.pairwise_append.1 (hd ▸ r1.2)
              have := (pd.2.2 y h z (List.mem_singleton.2 rfl)).1
              omega
            · rw [List.mem_singleton.1 h] at k3 k4
              refine hgf (hgo.2 ⟨k3, ?_⟩)
              rw [k4, show 4096 * ((16 : Int) + n) = 4096 * ((16 + n : Nat) : Int) by omega, enew]
theorem listS_spec {s : List Pg} (hs : GoodS s) : Rt (listS s) ∧ ∀ x t, x % 4096 = 0 → (Has (listS s) x t ↔ PHas s x t) := by
  obtain ⟨h1, _, h3⟩ := listN_spec hs 496 (Nat.le_refl _)
  refine ⟨h1, fun x t hx => (h3 x t hx).trans ⟨fun h => h.1, fun h => ⟨h, ?_⟩⟩⟩
  obtain ⟨q, h4, _, h5, _⟩ := h
  omega
end Go.Proofs.Ytbcicjmepojlnaa.Eng
/- Cuts, puts, sets, parts of right lists, page by page; no condition but those typed. -/
namespace Go.Proofs.Ytbcicjmepojlnaa.Eng
open Go Go.RowKit
set_option autoImplicit false
set_option linter.unusedSimpArgs false
set_option linter.unusedVariables false
/-! ### Parts -/
structure SubA (a' a : Ar) : Prop where
  fo : Fo a'
  s : a.s ≤ a'.s
  e : a'.e ≤ a.e
  x : ∀ x, ext a' x = ext a x
/-! ### Cut, Put, Set -/
end Go.Proofs.Ytbcicjmepojlnaa.Eng
/- What the reference's Of and Made come to, page by page; how many areas there are; no condition but those typed. -/
namespace Go.Proofs.Ytbcicjmepojlnaa.Eng
open Go Go.RowKit
set_option autoImplicit false
set_option linter.unusedSimpArgs false
set_option linter.unusedVariables false
theorem nthP_set {s : List Pg} {i : Nat} (p : Pg) (h : i < s.length) (q : Nat) : nthP (s.set i p) q = if q = i then p else nthP s q := by
  unfold nthP
  rw [List.getD_eq_getElem?_getD, List.getD_eq_getElem?_getD, List.getElem?_set]
  by_cases hq : i = q
  · subst hq
    rw [if_pos rfl, if_pos h, if_pos rfl]
    rfl
  · rw [if_neg hq, if_neg (fun e => hq e.symm)]
theorem refAttr_ext {a : Ar} (h : Fo a) {q : Int} (h1 : a.s ≤ 4096 * q) (h2 : 4096 * q < a.e) : refAttr a q = ext a (4096 * q) := by
  have := h.s0; have := h.e0
  rw [(refAttr_in (fo.2 h) (q := q) (by omega) (by omega)).2]
  unfold ext offP
  simp only [At.mk.injEq, true_and]
  split
  · rfl
  · omega
def pgOf (a : Ar) (q : Nat) : Pg := ⟨true, ext a (4096 * q)⟩
theorem ofA_get {a : Ar} (h : Fo a) {s : List Pg} (hs : s.length = 512) : ∀ (k : Nat), k ≤ lenA a → ∀ q : Nat, nthP (ofA a s k) q = if a.s ≤ 4096 * (q : Int) ∧ 4096 * (q : Int) < a.s + 4096 * k then pgOf a q else nthP s q
  | 0, _, q => by
    rw [if_neg (by omega)]
    rfl
  | k + 1, hk, q => by
    have := h.s0; have := h.e0; have := h.lo; have := h.hi; have := h.lt
    have hk' : (k : Int) < a.e / 4096 - a.s / 4096 := by unfold lenA at hk; omega
    have hp : (pG a k).toNat < (ofA a s k).length := by rw [ofA_len, hs]; unfold pG; omega
    show nthP (ofStep a (ofA a s k) k) q = _
    unfold ofStep
    rw [nthP_set _ hp, ofA_get h hs k (by omega) q]
    by_cases hq : q = (pG a k).toNat
    · have hq' : (q : Int) = a.s / 4096 + k := by rw [hq]; unfold pG; omega
      rw [if_pos hq, if_pos (by omega), refAttr_ext h (by unfold pG; omega) (by unfold pG; omega)]
      unfold pgOf
      rw [hq']
      rfl
    · have hq' : (q : Int) ≠ a.s / 4096 + k := by intro e; apply hq; unfold pG; omega
      rw [if_neg hq]
      by_cases hc : a.s ≤ 4096 * (q : Int) ∧ 4096 * (q : Int) < a.s + 4096 * k
      · rw [if_pos hc, if_pos (by omega)]
      · rw [if_neg hc, if_neg (by omega)]
def Paints (f : List Pg → Ar → List Pg) : Prop := ∀ s a, Fo a → s.length = 512 → (f s a).length = 512 ∧ ∀ q : Nat, q < 512 → (inA a (4096 * q) → nthP (f s a) q = pgOf a q) ∧ (¬ inA a (4096 * q) → nthP (f s a) q = nthP s q)
theorem of_paints : Paints fun s a => ofA a s (lenA a) := by
  intro s a h hs
  have := h.s0; have := h.e0; have := h.lt
  refine ⟨by rw [ofA_len, hs], fun q hq => ?_⟩
  have h1 := ofA_get h hs (lenA a) (Nat.le_refl _) q
  have h2 : a.s + 4096 * (lenA a : Int) = a.e := by unfold lenA; omega
  rw [h2] at h1
  exact ⟨fun hi => h1.trans (if_pos hi), fun hi => h1.trans (if_neg hi)⟩
theorem paint_not {f : List Pg → Ar → List Pg} (hf : Paints f) {q : Nat} (hq : q < 512) : ∀ (l : List Ar) (s : List Pg), Fm l → s.length = 512 → (∀ a ∈ l, ¬ inA a (4096 * q)) → nthP (l.foldl f s) q = nthP s q ∧ (l.foldl f s).length = 512
  | [], s, _, hs, _ => ⟨rfl, hs⟩
  | a :: l, s, hl, hs, hn => by
    obtain ⟨h1, h2⟩ := hf s a (fo.1 (hl a (List.mem_cons_self ..))) hs
    have := paint_not hf hq l (f s a) (fun c hc => hl c (List.mem_cons_of_mem _ hc)) h1 fun c hc => hn c (List.mem_cons_of_mem _ hc)
    rw [List.foldl_cons]
    exact ⟨this.1.trans ((h2 q hq).2 (hn a (List.mem_cons_self ..))), this.2⟩
theorem paint_yes {f : List Pg → Ar → List Pg} (hf : Paints f) {q : Nat} (hq : q < 512) : ∀ (l : List Ar) (s : List Pg), Ok l → s.length = 512 → ∀ a ∈ l, inA a (4096 * q) → nthP (l.foldl f s) q = pgOf a q
  | b :: l, s, hl, hs, a, ha, hi => by
    obtain ⟨h1, h2⟩ := hf s b (fo.1 (hl.1 b (List.mem_cons_self ..))) hs
    have pl := List.pairwise_cons.1 hl.2
    have hl' : Ok l := ⟨fun c hc => hl.1 c (List.mem_cons_of_mem _ hc), pl.2⟩
    rw [List.foldl_cons]
    rcases List.mem_cons.1 ha with rfl | h
    · rw [(paint_not hf hq l _ hl'.1 h1 fun c hc hic => by have := pl.1 c hc; have := hi.2; have := hic.1; omega).1]
      exact (h2 q hq).1 hi
    · exact paint_yes hf hq l _ hl' h1 a h hi
theorem noS_get (q : Nat) : nthP noS q = noPg := by
  unfold nthP noS
  rw [List.getD_eq_getElem?_getD, List.getElem?_replicate]
  split <;> rfl
theorem painted {f : List Pg → Ar → List Pg} (hf : Paints f) {l : List Ar} (hl : Ok l) : (∀ x t, x % 4096 = 0 → (PHas (l.foldl f noS) x t ↔ Has l x t)) ∧ ∀ q : Nat, q < 512 → (nthP (l.foldl f noS) q).is = false → nthP (l.foldl f noS) q = noPg := by
  have two : ∀ q : Nat, q < 512 → (∃ a ∈ l, inA a (4096 * q) ∧ nthP (l.foldl f noS) q = pgOf a q) ∨ ((∀ a ∈ l, ¬ inA a (4096 * q)) ∧ nthP (l.foldl f noS) q = noPg) := by
    intro q hq
    by_cases h : ∃ a ∈ l, inA a (4096 * q)
    · obtain ⟨a, ha, hi⟩ := h
      exact .inl ⟨a, ha, hi, paint_yes hf hq l noS hl noS_len a ha hi⟩
    · have hn : ∀ a ∈ l, ¬ inA a (4096 * q) := fun a ha hi => h ⟨a, ha, hi⟩
      exact .inr ⟨hn, by rw [(paint_not hf hq l noS hl.1 noS_len hn).1, noS_get]⟩
  refine ⟨fun x t hx => ⟨?_, ?_⟩, fun q hq hi => ?_⟩
  · rintro ⟨q, rfl, h0, hq, h1, h2⟩
    rcases two q hq with ⟨a, ha, hi, e⟩ | ⟨_, e⟩
    · rw [e] at h2
      exact ⟨a, ha, hi, h2⟩
    · rw [e] at h1
      cases h1
  · rintro ⟨a, ha, hi, h⟩
    have fa := fo.1 (hl.1 a ha)
    have := fa.lo; have := fa.hi; have := hi.1; have := hi.2
    have hxq : x = 4096 * ((x / 4096).toNat : Int) := by omega
    refine ⟨(x / 4096).toNat, hxq, by omega, by omega, ?_⟩
    rcases two (x / 4096).toNat (by omega) with ⟨b, hb, hi', e⟩ | ⟨hn, _⟩
    · rw [e]
      refine ⟨rfl, ?_⟩
      show ext b (4096 * ((x / 4096).toNat : Int)) = t
      rw [← hxq] at hi' ⊢
      exact has_fun hl ⟨b, hb, hi', rfl⟩ ⟨a, ha, hi, h⟩
    · exact (hn a ha (by rw [← hxq]; exact hi)).elim
  · rcases two q hq with ⟨a, ha, _, e⟩ | ⟨_, e⟩
    · rw [e] at hi
      cases hi
    · exact e
theorem of_spec {l : List Ar} (hl : Ok l) : (∀ x t, x % 4096 = 0 → (PHas (ofL l) x t ↔ Has l x t)) ∧ ∀ q : Nat, q < 512 → (nthP (ofL l) q).is = false → nthP (ofL l) q = noPg := painted of_paints hl
/-! ### Made -/
theorem over_get (s t : List Pg) (hs : s.length = 512) : ∀ (n : Nat), n ≤ 512 → ∀ q : Nat, nthP (overN s t n) q = if q < n ∧ (nthP t q).is = true then nthP t q else nthP s q
  | 0, _, q => by rw [if_neg (by omega)]; rfl
  | n + 1, hn, q => by
    have ih := over_get s t hs n (by omega) q
    cases hi : (nthP t n).is with
    | true =>
      rw [over_yes hi, nthP_set _ (by rw [overN_len, hs]; omega), ih]
      by_cases hq : q = n
      · subst hq
        rw [if_pos rfl, if_pos ⟨by omega, hi⟩]
      · rw [if_neg hq]
        by_cases hc : q < n ∧ (nthP t q).is = true
        · rw [if_pos hc, if_pos ⟨by omega, hc.2⟩]
        · rw [if_neg hc, if_neg (fun h => hc ⟨by omega, h.2⟩)]
    | false =>
      rw [over_no hi, ih]
      by_cases hc : q < n ∧ (nthP t q).is = true
      · rw [if_pos hc, if_pos ⟨by omega, hc.2⟩]
      · rw [if_neg hc, if_neg]
        rintro ⟨h1, h2⟩
        by_cases hq : q = n
        · subst hq; rw [hi] at h2; cases h2
        · exact hc ⟨by omega, h2⟩
theorem made_paints : Paints madeStep := by
  intro s a h hs
  rw [made_yes (fo.2 h)]
  refine ⟨by unfold overS; rw [overN_len, hs], fun q hq => ?_⟩
  have h1 : nthP (overS s (ofL [a])) q = _ := over_get s (ofL [a]) hs 512 (Nat.le_refl _) q
  have h2 := (of_paints noS a h noS_len).2 q hq
  have h3 : ofL [a] = ofA a noS (lenA a) := rfl
  rw [h1, h3]
  constructor
  · intro hi
    have e := h2.1 hi
    simp only at e
    rw [e, if_pos ⟨hq, rfl⟩]
  · intro hi
    have e := h2.2 hi
    simp only at e
    rw [e, noS_get, if_neg (by intro hh; have := hh.2; cases this)]
theorem good_paint {s : List Pg} (hs : GoodS s) (a : Ar) : GoodS (madeStep s a) := by
  cases hf : formed a with
  | false => rw [made_no hf]; exact hs
  | true =>
    have fa := fo.1 hf
    obtain ⟨h1, h2⟩ := made_paints s a fa hs.1
    refine ⟨h1, fun q hq hi => ?_⟩
    have := fa.lo; have := fa.hi; have := fa.s0
    by_cases hin : inA a (4096 * q)
    · rw [(h2 q hq).1 hin]
      exact ⟨by have := hin.1; omega, ext_good fa hin (by omega)⟩
    · rw [(h2 q hq).2 hin] at hi ⊢
      exact hs.2 q hq hi
theorem noS_good : GoodS noS := ⟨noS_len, fun q hq hi => by rw [noS_get] at hi; cases hi⟩
theorem good_fold : ∀ (l : List Ar) (s : List Pg), GoodS s → GoodS (l.foldl madeStep s)
  | [], s, hs => hs
  | a :: l, s, hs => good_fold l (madeStep s a) (good_paint hs a)
theorem madeT_good (l : List Ar) : GoodS (madeT l) := good_fold l noS noS_good
theorem made_spec (l : List Ar) : Rt (madeL l) ∧ ∀ x t, x % 4096 = 0 → (Has (madeL l) x t ↔ PHas (madeT (l.take 40)) x t) := listS_spec (madeT_good _)
/-! ### How many areas -/
end Go.Proofs.Ytbcicjmepojlnaa.Eng
/- Contracts of functions of lists that hand back new ones (printed by genr.py of this work); condition: as its 'hside' says. -/
namespace Go.Proofs.Ytbcicjmepojlnaa.Eng
open Go Go.RowKit
set_option linter.unusedVariables false
set_option linter.unusedSimpArgs false
end Go.Proofs.Ytbcicjmepojlnaa.Eng
/- Contracts of functions (printed by genx.py of this work): what each hands back; condition: as its 'hside' says. -/
namespace Go.Proofs.Ytbcicjmepojlnaa.Eng
open Go Go.RowKit
set_option linter.unusedVariables false
set_option linter.unusedSimpArgs false
end Go.Proofs.Ytbcicjmepojlnaa.Eng
/- What lists that are not right tell; no condition. -/
namespace Go.Proofs.Ytbcicjmepojlnaa.Eng
open Go Go.RowKit
set_option autoImplicit false
set_option linter.unusedSimpArgs false
set_option linter.unusedVariables false
end Go.Proofs.Ytbcicjmepojlnaa.Eng
/- Contracts of functions (printed by genx.py of this work): what each hands back; condition: as its 'hside' says. -/
namespace Go.Proofs.Ytbcicjmepojlnaa.Eng
open Go Go.RowKit
set_option linter.unusedVariables false
set_option linter.unusedSimpArgs false
end Go.Proofs.Ytbcicjmepojlnaa.Eng
/- What the laws of layer 7 come to, in plain words; no condition but those typed. -/
namespace Go.Proofs.Ytbcicjmepojlnaa.Eng
open Go Go.RowKit
set_option autoImplicit false
set_option linter.unusedSimpArgs false
set_option linter.unusedVariables false
theorem made_rt (l : List Ar) : Rt (madeL l) := (made_spec l).1
end Go.Proofs.Ytbcicjmepojlnaa.Eng
/- Covered, found, faults page by page; the reference's protecting; no condition but those typed. -/
namespace Go.Proofs.Ytbcicjmepojlnaa.Eng
open Go Go.RowKit
set_option autoImplicit false
set_option linter.unusedSimpArgs false
set_option linter.unusedVariables false
/-! ### Pages of right lists -/
theorem of_has {l : List Ar} (hl : Ok l) {q : Nat} (h0 : 16 ≤ q) (hq : q < 512) : (nthP (ofL l) q).is = true → Has l (4096 * q) (nthP (ofL l) q).t := fun h =>
  ((of_spec hl).1 _ _ (by omega)).1 ⟨q, rfl, h0, hq, h, rfl⟩
theorem has_of {l : List Ar} (hl : Ok l) {q : Nat} {t : At} (h : Has l (4096 * q) t) : (nthP (ofL l) q).is = true ∧ (nthP (ofL l) q).t = t := by
  obtain ⟨q', he, _, _, h1, h2⟩ := ((of_spec hl).1 _ _ (by omega)).2 h
  obtain rfl : q = q' := by omega
  exact ⟨h1, h2⟩
/-! ### A fault's reads, its bits -/
end Go.Proofs.Ytbcicjmepojlnaa.Eng
/- The reference's protecting, page by page; no condition but those typed. -/
namespace Go.Proofs.Ytbcicjmepojlnaa.Eng
open Go Go.RowKit
set_option autoImplicit false
set_option linter.unusedSimpArgs false
set_option linter.unusedVariables false
/-! ### Reads and writes -/
/-! ### What comes about -/
theorem of_low {l : List Ar} (hl : Fm l) {q : Nat} (hq : q < 512) (h : q < 16) (hi : (nthP (ofL l) q).is = true) : False := by
  have e : nthP (ofL l) q = nthP noS q := (paint_not of_paints hq l noS hl noS_len (fun a ha hin => by have := (fo.1 (hl a ha)).lo; have := hin.1; omega)).1
  rw [e, noS_get] at hi
  cases hi
/-! ### What is asked wrongly -/
section
variable {l : List Ar} {c : Cl} {q0 q1 k : Nat}
end
end Go.Proofs.Ytbcicjmepojlnaa.Eng
/- Contracts of functions (printed by genx.py of this work): what each hands back; condition: as its 'hside' says. -/
namespace Go.Proofs.Ytbcicjmepojlnaa.Eng
open Go Go.RowKit
set_option linter.unusedVariables false
set_option linter.unusedSimpArgs false
end Go.Proofs.Ytbcicjmepojlnaa.Eng
/- What the laws of layer 11 come to, in plain words; no condition but those typed. -/
namespace Go.Proofs.Ytbcicjmepojlnaa.Eng
open Go Go.RowKit
set_option autoImplicit false
set_option linter.unusedSimpArgs false
set_option linter.unusedVariables false
/-! ### A protected list -/
/-! ### A fault at a page that is there -/
/-! ### ProtectAllows -/
/-! ### ProtectHalves -/
/-! ### ProtectBack -/
/-! ### Numbers that the laws reckon -/
abbrev hvN (q : Int) : Int := IntKind.i64.wrap (2 + IntKind.i64.wrap (Int.tmod q 40))
abbrev hvK (q r : Int) : Int := IntKind.i64.wrap (1 + Int.tmod (IntKind.i64.wrap r) (IntKind.i64.wrap (hvN q - 1)))
abbrev hvA (q : Int) : Int := IntKind.i64.wrap (4096 * IntKind.i64.wrap (16 + IntKind.i64.wrap (Int.tmod q 60)))
abbrev hvP (q : Int) : Int := IntKind.i64.wrap (Int.tmod q 8)
abbrev hv1 (q1 q2 q3 q4 : Int) : Cl := ⟨0, hvA q1, IntKind.i64.wrap (4096 * hvN q2), 0, 0, hvP q4, 0, 0, 0⟩
abbrev hv3 (q1 q2 q3 q4 : Int) : Cl := ⟨0, IntKind.i64.wrap (hvA q1 + IntKind.i64.wrap (4096 * hvK q2 q3)), IntKind.i64.wrap (4096 * IntKind.i64.wrap (hvN q2 - hvK q2 q3)), 0, 0, hvP q4, 0, 0, 0⟩
end Go.Proofs.Ytbcicjmepojlnaa.Eng
