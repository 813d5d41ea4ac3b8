/- Texts of this work, laid together: symbolic execution over the model, contracts of the program's functions, what they come to; conditions: as each says. -/
import Derived.Test.YtbcicjmepojlnaaPkZAY
import Derived.Test.YtbcicjmepojlnaaPkZBA
import Derived.Test.YtbcicjmepojlnaaPkZBG
/- Pages put and cut, as lists; some of a range's pages; no condition but those typed. -/
namespace Go.Proofs.Ytbcicjmepojlnaa.Eng
open Go Go.RowKit
set_option autoImplicit false
set_option linter.unusedSimpArgs false
set_option linter.unusedVariables false
def woP (q0 : Nat) (s : List Pg) : Nat → List Pg
  | 0 => s
  | k + 1 => (woP q0 s k).set (q0 + k) noPg
theorem woP_len (q0 : Nat) (s : List Pg) : ∀ k, (woP q0 s k).length = s.length
  | 0 => rfl
  | k + 1 => List.length_set.trans (woP_len q0 s k)
theorem woP_get (q0 : Nat) {s : List Pg} (hs : s.length = 512) : ∀ (k : Nat), q0 + k ≤ 512 → ∀ q : Nat, nthP (woP q0 s k) q = if q0 ≤ q ∧ q < q0 + k then noPg else nthP s q
  | 0, _, q => by rw [if_neg (by omega)]; rfl
  | k + 1, hk, q => by
    have ih := woP_get q0 hs k (by omega)
    show nthP ((woP q0 s k).set (q0 + k) _) q = _
    rw [nthP_set _ (by rw [woP_len, hs]; omega), ih]
    by_cases h : q = q0 + k
    · subst h
      rw [if_pos rfl, if_pos (by omega)]
    · rw [if_neg h]
      by_cases h2 : q0 ≤ q ∧ q < q0 + k
      · rw [if_pos h2, if_pos (by omega)]
      · rw [if_neg h2, if_neg (by omega)]
theorem cut_pages {l : List Ar} (hl : Rt l) {lo hi : Int} (h : RgOk lo hi) : listS (woP (lo / 4096).toNat (ofL l) ((hi / 4096).toNat - (lo / 4096).toNat)) = cutL l lo hi := by
  obtain ⟨h1, h2, h3, h4, h5⟩ := h
  have hg := good_of hl
  have hq : (lo / 4096).toNat + ((hi / 4096).toNat - (lo / 4096).toNat) ≤ 512 := by omega
  have get := woP_get (lo / 4096).toNat hg.1 _ hq
  obtain ⟨s1, s2⟩ := cut_spec hl (lo := lo) (hi := hi) (by unfold In64; omega) (by unfold In64; omega)
  have hg2 : GoodS (woP (lo / 4096).toNat (ofL l) ((hi / 4096).toNat - (lo / 4096).toNat)) := ⟨by rw [woP_len, hg.1], fun q hq' hi' => by
    rw [get q] at hi' ⊢
    split at hi'
    · cases hi'
    · rename_i hc
      rw [if_neg hc]
      exact hg.2 q hq' hi'⟩
  obtain ⟨l1, l2⟩ := listS_spec hg2
  refine rt_ext l1 s1 fun x t hx => ?_
  rw [l2 x t hx, s2 x t hx]
  constructor
  · rintro ⟨q, rfl, g1, g2, g3, g4⟩
    rw [get q] at g3 g4
    split at g3
    · cases g3
    · rename_i hc
      rw [if_neg hc] at g4
      refine ⟨g4 ▸ of_has hl.ok g1 g2 g3, fun ht => hc ?_⟩
      have := ht.2.1
      have := ht.2.2
      omega
  · rintro ⟨g1, g2⟩
    have := has_range hl.1 g1
    have ex : 4096 * ((x / 4096).toNat : Int) = x := by omega
    obtain ⟨e1, e2⟩ := has_of hl.ok (q := (x / 4096).toNat) (t := t) (by rw [ex]; exact g1)
    have e : nthP (woP (lo / 4096).toNat (ofL l) ((hi / 4096).toNat - (lo / 4096).toNat)) (x / 4096).toNat = nthP (ofL l) (x / 4096).toNat := by
      rw [get, if_neg]
      intro hc
      exact g2 ⟨h3, by omega, by omega⟩
    exact ⟨(x / 4096).toNat, ex.symm, by omega, by omega, by rw [e]; exact e1, by rw [e]; exact e2⟩
end Go.Proofs.Ytbcicjmepojlnaa.Eng
/- The reference's With, Without, Some: pages put, cut, found; no condition but those typed. -/
namespace Go.Proofs.Ytbcicjmepojlnaa.Eng
open Go Go.RowKit
set_option autoImplicit false
set_option linter.unusedSimpArgs false
set_option linter.unusedVariables false
end Go.Proofs.Ytbcicjmepojlnaa.Eng
/- Contracts of functions (printed by genx.py of this work): what each hands back; condition: as its 'hside' says. -/
namespace Go.Proofs.Ytbcicjmepojlnaa.Eng
open Go Go.RowKit
set_option linter.unusedVariables false
set_option linter.unusedSimpArgs false
end Go.Proofs.Ytbcicjmepojlnaa.Eng
/- The reference's Unmap, as the program's; no condition but those typed. -/
namespace Go.Proofs.Ytbcicjmepojlnaa.Eng
open Go Go.RowKit
set_option autoImplicit false
set_option linter.unusedSimpArgs false
set_option linter.unusedVariables false
section
variable {l : List Ar} {c : Cl}
theorem un_bad (hm : mayS l = true) (h : (rangeE c.a c.n != 0) = true) : unN l c = errA (rangeE c.a c.n) ∧ unL l c = l ∧ ((unN l c).er != 0) = true := by
  have he : unE l c = rangeE c.a c.n := by unfold unE; rw [hm]; rfl
  have e1 : unN l c = errA (rangeE c.a c.n) := by unfold unN; rw [he, if_pos h]
  exact ⟨e1, by unfold unL; rw [he, if_pos h], by rw [e1]; exact h⟩
theorem un_ok (hm : mayS l = true) (h : (rangeE c.a c.n != 0) = false) : unN l c = keptN (unS l c) 0 ∧ unL l c = keptL l (unS l c) ∧ listS (woP (rangeLo c.a c.n / 4096).toNat (ofL l) ((rangeHi c.a c.n / 4096).toNat - (rangeLo c.a c.n / 4096).toNat)) = unS l c := by
  have he : unE l c = rangeE c.a c.n := by unfold unE; rw [hm]; rfl
  refine ⟨by unfold unN; rw [he, if_neg (by rw [h]; simp)], by unfold unL; rw [he, if_neg (by rw [h]; simp)], ?_⟩
  exact cut_pages (mayS_rt hm).1 (range_ok (bne_no h)).1
theorem un_rng (h : (rangeE c.a c.n != 0) = false) : 0 ≤ rangeLo c.a c.n ∧ rangeLo c.a c.n ≤ rangeHi c.a c.n ∧ rangeHi c.a c.n ≤ 2097152 := by
  obtain ⟨h1, h2, h3, _, _⟩ := (range_ok (bne_no h)).1
  omega
end
theorem keptN_er {now l : List Ar} {v : Int} (h : ((keptN now v).er != 0) = true) : keptL l now = l := by
  unfold keptN at h
  unfold keptL
  split at h
  · rename_i h2
    rw [if_pos h2]
  · cases h
theorem un_self {l : List Ar} {c : Cl} (h : ((unN l c).er != 0) = true) : unL l c = l := by
  unfold unN at h
  unfold unL
  split at h
  · rename_i h2
    rw [if_pos h2]
  · rename_i h2
    rw [if_neg h2]
    exact keptN_er h
theorem map_self {l : List Ar} {c : Cl} (h : ((mapN l c).er != 0) = true) : mapL l c = l := by
  unfold mapN at h
  unfold mapL
  split at h
  · rename_i h2
    rw [if_pos h2]
  · rename_i h2
    rw [if_neg h2]
    exact keptN_er h
end Go.Proofs.Ytbcicjmepojlnaa.Eng
/- Contracts of functions (printed by genx.py of this work): what each hands back; condition: as its 'hside' says. -/
namespace Go.Proofs.Ytbcicjmepojlnaa.Eng
open Go Go.RowKit
set_option linter.unusedVariables false
set_option linter.unusedSimpArgs false
end Go.Proofs.Ytbcicjmepojlnaa.Eng
/- Flags; the reference's Place, as the program's; no condition but those typed. -/
namespace Go.Proofs.Ytbcicjmepojlnaa.Eng
open Go Go.RowKit
set_option autoImplicit false
set_option linter.unusedSimpArgs false
set_option linter.unusedVariables false
set_option linter.unusedSectionVars false
theorem flag_all : ∀ f : Fin 256, (Int.tmod (f.val : Int) 2 == 1) = bitB f.val 1 ∧ (Int.tmod (IntKind.i64.wrap (Int.tdiv (f.val : Int) 2)) 2 == 1) = bitB f.val 2 ∧ (Int.tmod (IntKind.i64.wrap (Int.tdiv (f.val : Int) 4)) 2 == 1) = bitB f.val 4 ∧ (Int.tmod (IntKind.i64.wrap (Int.tdiv (f.val : Int) 8)) 2 == 0) = !bitB f.val 8 := by decide +kernel
theorem flag_is {f : Int} (h : 0 ≤ f ∧ f ≤ 255) : (Int.tmod f 2 == 1) = bitB f 1 ∧ (Int.tmod (IntKind.i64.wrap (Int.tdiv f 2)) 2 == 1) = bitB f 2 ∧ (Int.tmod (IntKind.i64.wrap (Int.tdiv f 4)) 2 == 1) = bitB f 4 ∧ (Int.tmod (IntKind.i64.wrap (Int.tdiv f 8)) 2 == 0) = !bitB f 8 := by
  have := flag_all ⟨f.toNat, by omega⟩
  have e : ((f.toNat : Nat) : Int) = f := by omega
  simp only [e] at this
  exact this
theorem pick_is {l : List Ar} {n f : Int} : pickB l n f = true → chooseL l 65536 2097152 n (!bitB f 8) = pickV l n f := fun h => by
  unfold pickB at h
  unfold pickV chooseL
  cases hb : bitB f 8 with
  | true =>
    rw [hb, if_pos rfl] at h
    rw [if_neg (by simp), if_pos h, if_pos rfl]
  | false =>
    rw [hb, if_neg (by simp)] at h
    rw [if_pos (by decide), if_pos h, if_neg (by simp)]
theorem pick_dec {l : List Ar} (hl : Rt l) {n f : Int} (h64 : In64 n) : pickB l n f = decide (0 ≤ chooseL l 65536 2097152 n (!bitB f 8)) := by
  obtain ⟨k1, k2, _⟩ := chooses hl (lo := 65536) (hi := 2097152) h64
  unfold pickB
  cases hb : bitB f 8 with
  | true => rw [if_pos rfl]; exact k1
  | false => rw [if_neg (by simp)]; exact k2
section
variable {l : List Ar} {a n f : Int} (hm : mayS l = true) (h64 : In64 n) (hf : 0 ≤ f ∧ f ≤ 255)
include hm hf
include h64
theorem pl5 (t1 : (Int.tmod f 2 == 1) = false) (h : (a != 0) = false ∨ fitsL l a n = false) (h2 : decide (chooseL l 65536 2097152 n (Int.tmod (IntKind.i64.wrap (Int.tdiv f 8)) 2 == 0) < 0) = true) : 0 = placeV l a n f ∧ 5 = placeE l a n f := by
  rw [(flag_is hf).1] at t1
  rw [(flag_is hf).2.2.2] at h2
  have hp : pickB l n f = false := by
    rw [pick_dec (mayS_rt hm).1 h64, decide_eq_false_iff_not]
    have := of_decide_eq_true h2
    omega
  have hc : (a != 0 && fitsL l a n) = false := by rcases h with h | h <;> rw [h] <;> simp
  unfold placeV placeE
  rw [hm, t1, hc, hp]
  exact ⟨rfl, rfl⟩
theorem pl6 (t1 : (Int.tmod f 2 == 1) = false) (h : (a != 0) = false ∨ fitsL l a n = false) (h2 : decide (chooseL l 65536 2097152 n (Int.tmod (IntKind.i64.wrap (Int.tdiv f 8)) 2 == 0) < 0) = false) : chooseL l 65536 2097152 n (Int.tmod (IntKind.i64.wrap (Int.tdiv f 8)) 2 == 0) = placeV l a n f ∧ 0 = placeE l a n f := by
  rw [(flag_is hf).1] at t1
  rw [(flag_is hf).2.2.2] at h2 ⊢
  have hp : pickB l n f = true := by
    rw [pick_dec (mayS_rt hm).1 h64, decide_eq_true_eq]
    have := of_decide_eq_false h2
    omega
  have hc : (a != 0 && fitsL l a n) = false := by rcases h with h | h <;> rw [h] <;> simp
  unfold placeV placeE
  rw [hm, t1, hc, hp, pick_is hp]
  exact ⟨rfl, rfl⟩
end
end Go.Proofs.Ytbcicjmepojlnaa.Eng
/- Contracts of functions (printed by genx.py of this work): what each hands back; condition: as its 'hside' says. -/
namespace Go.Proofs.Ytbcicjmepojlnaa.Eng
open Go Go.RowKit
set_option linter.unusedVariables false
set_option linter.unusedSimpArgs false
end Go.Proofs.Ytbcicjmepojlnaa.Eng
/- What is asked of a map; no condition but those typed. -/
namespace Go.Proofs.Ytbcicjmepojlnaa.Eng
open Go Go.RowKit
set_option autoImplicit false
set_option linter.unusedSimpArgs false
set_option linter.unusedVariables false
set_option linter.unusedSectionVars false
theorem fl15_no {f : Int} (h64 : In64 f) (h : decide (f < 0) = true ∨ decide (15 < f) = true) : flagsE f 15 = 1 := by
  unfold flagsE
  rcases h with h | h
  · rw [h]; rfl
  · have a := of_decide_eq_true h
    have b := h64.2
    obtain ⟨m, rfl⟩ : ∃ m : Nat, f = m := ⟨f.toNat, by omega⟩
    have k := andNot_zero m 15 (by omega) (by omega)
    rw [if_pos]
    rw [Bool.or_eq_true]
    refine .inr ?_
    rw [bne_iff_ne]
    intro hc
    have h3 := k.1 hc
    have h4 := Nat.and_le_right (n := m) (m := 15)
    omega
theorem prot_no {p : Int} (h : decide (p < 0) = true ∨ decide (7 < p) = true) : protE p = 1 := by
  unfold protE
  rw [if_pos]
  rw [Bool.or_eq_true]
  exact h
section
variable {l : List Ar} {c : Cl} (hm : mayS l = true)
include hm
theorem mp_ok (h0 : askE c = 0) (h : (placeE l c.a (sizeV c.n) c.f != 0) = false) : mapN l c = keptN (putL l (mapA l c)) (mapV l c) ∧ mapL l c = keptL l (putL l (mapA l c)) := by
  have he : mapE l c = placeE l c.a (sizeV c.n) c.f := by unfold mapE; rw [hm, if_neg (by simp), h0, if_neg (by simp)]
  exact ⟨by unfold mapN; rw [he, if_neg (by rw [h]; simp)], by unfold mapL; rw [he, if_neg (by rw [h]; simp)]⟩
end
section
variable {c : Cl} (hs : (sizeE c.n == 0) = true)
include hs
end
theorem place_rng {l : List Ar} (hm : mayS l = true) {a n f : Int} (hn : SzOk n) (ha : In64 a) (h : placeE l a n f = 0) : 65536 ≤ placeV l a n f ∧ placeV l a n f + n ≤ 2097152 ∧ placeV l a n f % 4096 = 0 := by
  have hrt := (mayS_rt hm).1
  obtain ⟨n1, n2, n3⟩ := hn
  have h64 : In64 n := by unfold In64; omega
  unfold placeE at h
  unfold placeV
  rw [hm] at h ⊢
  rw [if_neg (by simp)] at h ⊢
  by_cases b1 : bitB f 1 = true
  · rw [if_pos b1] at h ⊢
    unfold fixV
    rw [h, if_neg (by simp)]
    have hr : rangeE a n = 0 := by
      unfold fixE at h
      by_cases hb : (rangeE a n != 0) = true
      · rw [if_pos hb] at h
        exact h
      · have hb2 : (rangeE a n != 0) = false := by simpa using hb
        exact bne_no hb2
    obtain ⟨⟨r1, r2, r3, r4, r5⟩, e1, e2, e3⟩ := range_ok hr
    have hv := size_ok e3
    have := hv.2.1
    rw [e1] at r1 r4
    rw [e2] at r2
    exact ⟨r1, by omega, r4⟩
  · rw [if_neg b1] at h ⊢
    by_cases b2 : (a != 0 && fitsL l a n) = true
    · rw [if_pos b2]
      rw [Bool.and_eq_true] at b2
      have k := (fits_iff hrt ha h64).1 b2.2
      exact ⟨k.2.2.1, k.2.2.2.1, k.2.1⟩
    · rw [if_neg b2] at h ⊢
      by_cases b3 : pickB l n f = true
      · rw [if_pos b3]
        have hs : sizeG n = true := (sizeG_iff h64).2 ⟨n1, n2, n3⟩
        unfold pickB at b3
        unfold pickV
        split
        · rename_i b4
          rw [if_pos b4] at b3
          have g := ((low_spec hrt hs h64).1 b3).1
          exact ⟨g.l1, g.h1, g.z⟩
        · rename_i b4
          rw [if_neg b4] at b3
          have g := ((high_spec hrt hs h64).1 b3).1
          exact ⟨g.l1, g.h1, g.z⟩
      · rw [if_neg b3] at h
        cases h
theorem back_is {b o n : Int} (hn : SzOk n) (h : backE b o n = 0) : 0 ≤ b ∧ b ≤ 9 ∧ (b = 0 → o = 0) ∧ (b ≠ 0 → o % 4096 = 0 ∧ 0 ≤ o ∧ o ≤ 1099511627776 - n) := by
  obtain ⟨n1, n2, n3⟩ := hn
  unfold backE at h
  rw [w64_id (show In64 (1099511627776 - n) by unfold In64; omega)] at h
  by_cases h1 : backBad b o = true
  · rw [if_pos h1] at h; cases h
  · rw [if_neg h1] at h
    by_cases h2 : (Int.tmod o 4096 != 0) = true
    · rw [if_pos h2] at h; cases h
    · rw [if_neg h2] at h
      have h2' := (tmod0 o).1 (by simpa using h2)
      by_cases h3 : (decide (o < 0) || decide (o > 1099511627776 - n)) = true
      · rw [if_pos h3] at h; cases h
      · simp only [Bool.or_eq_true, decide_eq_true_eq, not_or] at h3
        unfold backBad at h1
        simp at h1
        omega
theorem map_fo {l : List Ar} {c : Cl} (hm : mayS l = true) (hs : (sizeE c.n == 0) = true) (ha : In64 c.a) (h1 : decide (c.p < 0) = false) (h2 : decide (7 < c.p) = false) (hb : backE c.b c.o (sizeV c.n) = 0) (h : (placeE l c.a (sizeV c.n) c.f != 0) = false) : Fo (mapA l c) ∧ (mapA l c).e = mapV l c + sizeV c.n := by
  have hn := (size_ok (beq_yes hs)).1
  obtain ⟨r1, r2, r3⟩ := place_rng hm hn ha (bne_no h)
  obtain ⟨k1, k2, k3, k4⟩ := back_is hn hb
  obtain ⟨n1, n2, n3⟩ := hn
  have a1 := of_decide_eq_false h1
  have a2 := of_decide_eq_false h2
  have e : w64 (mapV l c + sizeV c.n) = mapV l c + sizeV c.n := w64_id (by unfold mapV In64; omega)
  have e2 : (mapA l c).e = mapV l c + sizeV c.n := e
  refine ⟨fo.1 ((formed_iff _).2 ⟨r3, ?_, r1, ?_, ?_, (show 0 ≤ c.p by omega), (show c.p ≤ 7 by omega), k1, k2, k3, fun hne => ?_⟩), e2⟩
  · rw [e2]; unfold mapV; omega
  · rw [e2]; unfold mapV; omega
  · rw [e2]; show mapV l c < _; omega
  · have := k4 hne
    rw [e2]
    exact ⟨this.1, this.2.1, by show c.o ≤ 1099511627776 - (mapV l c + sizeV c.n - mapV l c); omega⟩
end Go.Proofs.Ytbcicjmepojlnaa.Eng
/- Contracts of functions (printed by genx.py of this work): what each hands back; condition: as its 'hside' says. -/
namespace Go.Proofs.Ytbcicjmepojlnaa.Eng
open Go Go.RowKit
set_option linter.unusedVariables false
set_option linter.unusedSimpArgs false
end Go.Proofs.Ytbcicjmepojlnaa.Eng
/- What a map comes to, where it comes about: free places, what is mapped again; no condition but those typed. -/
namespace Go.Proofs.Ytbcicjmepojlnaa.Eng
open Go Go.RowKit
set_option autoImplicit false
set_option linter.unusedSimpArgs false
set_option linter.unusedVariables false
set_option linter.unusedSectionVars false
structure AskOk (c : Cl) : Prop where
  sz : sizeE c.n = 0
  p0 : 0 ≤ c.p
  p7 : c.p ≤ 7
  f0 : 0 ≤ c.f
  f15 : c.f ≤ 15
  f2 : (bits .and .i64 c.f 3 == 2) = false
  b : backE c.b c.o (sizeV c.n) = 0
theorem ask_ok {c : Cl} (hf : In64 c.f) (h : askE c = 0) : AskOk c := by
  have h2 : sizeE c.n = 0 ∧ protE c.p = 0 ∧ flagsE c.f 15 = 0 ∧ (bits .and .i64 c.f 3 == 2) = false ∧ backE c.b c.o (sizeV c.n) = 0 := by
    unfold askE at h
    by_cases b1 : sizeE c.n = 0
    · rw [b1, if_neg (by simp)] at h
      by_cases b2 : protE c.p = 0
      · rw [b2, if_neg (by simp)] at h
        by_cases b3 : flagsE c.f 15 = 0
        · rw [b3, if_neg (by simp)] at h
          cases b4 : (bits .and .i64 c.f 3 == 2) with
          | true => rw [b4, if_pos rfl] at h; cases h
          | false => rw [b4, if_neg (by simp)] at h; exact ⟨b1, b2, b3, rfl, h⟩
        · rw [if_pos (by simpa using b3)] at h; exact absurd h b3
      · rw [if_pos (by simpa using b2)] at h; exact absurd h b2
    · rw [if_pos (by simpa using b1)] at h; exact absurd h b1
  obtain ⟨k1, k2, k3, k4, k5⟩ := h2
  have hp : 0 ≤ c.p ∧ c.p ≤ 7 := by
    by_cases hc : c.p < 0
    · rw [prot_no (.inl (decide_eq_true hc))] at k2; cases k2
    · by_cases hc2 : 7 < c.p
      · rw [prot_no (.inr (decide_eq_true hc2))] at k2; cases k2
      · omega
  have hff : 0 ≤ c.f ∧ c.f ≤ 15 := by
    by_cases hc : c.f < 0
    · rw [fl15_no hf (.inl (decide_eq_true hc))] at k3; cases k3
    · by_cases hc2 : 15 < c.f
      · rw [fl15_no hf (.inr (decide_eq_true hc2))] at k3; cases k3
      · omega
  exact ⟨k1, hp.1, hp.2, hff.1, hff.2, k4, k5⟩
structure MapOk (l : List Ar) (c : Cl) : Prop where
  ask : AskOk c
  pl : placeE l c.a (sizeV c.n) c.f = 0
  fo : Fo (mapA l c)
  e : (mapA l c).e = mapV l c + sizeV c.n
  eq : mapL l c = putL l (mapA l c)
  n : mapN l c = okA (mapV l c)
  le : (putL l (mapA l c)).length ≤ 24
theorem map_yes {l : List Ar} {c : Cl} (hm : mayS l = true) (ha : In64 c.a) (hf : In64 c.f) (h : (mapN l c).er = 0) : MapOk l c := by
  have he : mapE l c = 0 := by
    unfold mapN at h
    by_cases hb : (mapE l c != 0) = true
    · rw [if_pos hb] at h
      exact h
    · simpa using hb
  have h1 : askE c = 0 ∧ placeE l c.a (sizeV c.n) c.f = 0 := by
    unfold mapE at he
    rw [hm, if_neg (by simp)] at he
    by_cases hb : askE c = 0
    · rw [hb, if_neg (by simp)] at he
      exact ⟨hb, he⟩
    · rw [if_pos (by simpa using hb)] at he
      exact absurd he hb
  obtain ⟨k1, k2⟩ := h1
  have k := ask_ok hf k1
  obtain ⟨hfo, hen⟩ := map_fo hm (by rw [k.sz]; rfl) ha (by rw [decide_eq_false_iff_not]; have := k.p0; omega) (by rw [decide_eq_false_iff_not]; have := k.p7; omega) k.b (by rw [k2]; rfl)
  obtain ⟨g1, g2⟩ := mp_ok hm k1 (by rw [k2]; rfl)
  cases hd : decide ((24 : Int) < ((putL l (mapA l c)).length : Int)) with
  | true =>
    rw [g1, (kept_no (was := l) hd).2] at h
    cases h
  | false =>
    rw [(kept_yes (was := l) hd).2] at g1
    rw [(kept_yes (v := 0) (was := l) hd).1] at g2
    have := of_decide_eq_false hd
    exact ⟨k, k2, hfo, hen, g2, g1, by omega⟩
theorem map_may {l : List Ar} {c : Cl} (hm : mayS l = true) (k : MapOk l c) : mayS (mapL l c) = true := by
  rw [k.eq]
  exact rt_mayS (put_spec (mayS_rt hm).1 k.fo).1 k.le
end Go.Proofs.Ytbcicjmepojlnaa.Eng
/- The break: the pure forms; what the reference's pages come to; no condition but those typed. -/
namespace Go.Proofs.Ytbcicjmepojlnaa.Eng
open Go Go.RowKit
set_option autoImplicit false
set_option linter.unusedSimpArgs false
set_option linter.unusedVariables false
set_option linter.unusedSectionVars false
theorem le24 (l : List Ar) : decide ((24 : Int) < (l.length : Int)) = !decide ((l.length : Int) ≤ 24) := by
  rw [Bool.eq_iff_iff, Bool.not_eq_true', decide_eq_true_eq, decide_eq_false_iff_not]
  omega
theorem IsX.row3 {mk : C → SV} {r r' : List Ar} {i c2 : Nat} {A2 : Option Addr} {v k k2 : SV} {H' : Heap} (hv : v = .tup [.c (.sl i A2 r'.length c2), k, k2]) (hH : H' i = some (.row A2 c2 53 6 r'.length (encL r'))) (hm : ∀ x, mk x = .tup [.c x, k, k2]) (h : r' = r) : IsX (.row 53 6 r.length (encL r) mk) v H' :=
  IsX.row_ h (hv.trans (hm _).symm) hH
def brkR (n : Int) : Bool := decide (65536 ≤ n) && decide (n ≤ 327680)
def brkE (l : List Ar) (m w : Int) : Int := if (!mayS l || !brkR m) = true then 1 else if (w == 0) = true then 0 else if (!brkR w) = true then 4 else if (decide (upG m < upG w) && !fitsL l (upG m) (w64 (upG w - upG m))) = true then 5 else 0
def brkStay (a b : Int) : Bool := !decide (a < b) && !decide (b < a)
def brkMv (l : List Ar) (a b : Int) : List Ar := if decide (a < b) = true then putL l ⟨a, b, 3, false, 0, 0⟩ else if decide (b < a) = true then cutL l b a else l
theorem mv_1 {l : List Ar} {a b : Int} (h : decide (a < b) = true) : brkStay a b = false ∧ putL l ⟨a, b, 3, false, 0, 0⟩ = brkMv l a b := by
  unfold brkStay brkMv
  rw [h]
  exact ⟨rfl, rfl⟩
theorem mv_2 {l : List Ar} {a b : Int} (h : decide (a < b) = false) (h2 : decide (b < a) = true) : brkStay a b = false ∧ cutL l b a = brkMv l a b := by
  unfold brkStay brkMv
  rw [h, h2]
  exact ⟨rfl, rfl⟩
theorem mv_3 {a b : Int} (h : decide (a < b) = false) (h2 : decide (b < a) = false) : brkStay a b = true := by
  unfold brkStay
  rw [h, h2]
  rfl
theorem mv_4 {l : List Ar} {a b : Int} (h : brkStay a b = true) : l = brkMv l a b := by
  unfold brkStay at h
  rw [Bool.and_eq_true, Bool.not_eq_true', Bool.not_eq_true'] at h
  unfold brkMv
  rw [h.1, h.2]
  rfl
def brkK (l : List Ar) (m w : Int) : List Ar := brkMv l (upG m) (upG w)
def brkL (l : List Ar) (m w : Int) : List Ar := if (brkE l m w != 0) = true then l else if (w == 0) = true then l else keptL l (brkK l m w)
def brkN (l : List Ar) (m w : Int) : An := if (brkE l m w != 0) = true then errA (brkE l m w) else if (w == 0) = true then okA m else keptN (brkK l m w) w
def brkV (l : List Ar) (m w : Int) : Int := if (brkE l m w != 0) = true then m else if (w == 0) = true then m else if ((keptN (brkK l m w) w).er != 0) = true then m else w
def brkSame (l : List Ar) (m w : Int) : Bool := (w == 0) || ((brkN l m w).er != 0)
def endB (n : Int) : Int := (n + 4095) / 4096
structure BrOk (n : Int) : Prop where
  lo : 65536 ≤ n
  hi : n ≤ 327680
theorem br_iff (n : Int) : brkR n = true ↔ BrOk n := by
  unfold brkR
  rw [Bool.and_eq_true, decide_eq_true_eq, decide_eq_true_eq]
  exact ⟨fun h => ⟨h.1, h.2⟩, fun h => ⟨h.lo, h.hi⟩⟩
theorem up_end {n : Int} (h : BrOk n) : upG n = 4096 * endB n ∧ 16 ≤ endB n ∧ endB n ≤ 80 := by
  have h1 := h.lo
  have h2 := h.hi
  rw [up_eq (by omega)]
  unfold endB
  omega
theorem brk_fo {a b : Int} (h1 : 16 ≤ a) (h2 : a < b) (h3 : b ≤ 512) : Fo (⟨4096 * a, 4096 * b, 3, false, 0, 0⟩ : Ar) :=
  fo.1 ((formed_iff _).2 ⟨(by show 4096 * a % 4096 = 0; omega), (by show 4096 * b % 4096 = 0; omega), (by show 65536 ≤ 4096 * a; omega), (by show 4096 * b ≤ 2097152; omega), (by show 4096 * a < 4096 * b; omega), (show (0:Int) ≤ 3 by decide), (show (3:Int) ≤ 7 by decide), (show (0:Int) ≤ 0 by decide), (show (0:Int) ≤ 9 by decide), fun _ => rfl, fun h => absurd rfl h⟩)
theorem free_fits {l : List Ar} (hl : Rt l) {a b : Int} (h1 : 16 ≤ a) (h2 : a < b) (h3 : b ≤ 512) : freeS (ofL l) a (b - a) = fitsL l (4096 * a) (4096 * b - 4096 * a) := by
  have k := freeS_iff hl.ok (a := 4096 * a) (n := 4096 * b - 4096 * a) (by omega) (by omega) (by omega) (by omega)
  have e1 : 4096 * a / 4096 = a := by omega
  have e2 : (4096 * b - 4096 * a) / 4096 = b - a := by omega
  rw [e1, e2] at k
  have h64 : In64 (4096 * b - 4096 * a) := by unfold In64; omega
  have k2 := fits_iff hl (a := 4096 * a) (n := 4096 * b - 4096 * a) (by unfold In64; omega) h64
  rw [Bool.eq_iff_iff, k, k2]
  exact ⟨fun h => ⟨(sizeG_iff h64).2 (by omega), by omega, by omega, by omega, h⟩, fun h => h.2.2.2.2⟩
section
variable {l : List Ar} {m w : Int} (hm : mayS l = true) (hb : brkR m = true)
include hm hb
theorem bk_0 (h : (w == 0) = true) : brkE l m w = 0 ∧ brkN l m w = okA m ∧ brkL l m w = l ∧ brkV l m w = m ∧ brkSame l m w = true := by
  have he : brkE l m w = 0 := by unfold brkE; rw [hm, hb, h]; rfl
  refine ⟨he, ?_, ?_, ?_, ?_⟩
  · unfold brkN; rw [he, h]; rfl
  · unfold brkL; rw [he, h]; rfl
  · unfold brkV; rw [he, h]; rfl
  · unfold brkSame; rw [h]; rfl
theorem bk_go (h : (w == 0) = false) (he : brkE l m w = 0) : brkN l m w = keptN (brkK l m w) w ∧ brkL l m w = keptL l (brkK l m w) ∧ brkV l m w = (if ((keptN (brkK l m w) w).er != 0) = true then m else w) := by
  refine ⟨?_, ?_, ?_⟩
  · unfold brkN; rw [he, h]; rfl
  · unfold brkL; rw [he, h]; rfl
  · unfold brkV; rw [he, h]; rfl
end
theorem brkMv_bd (l : List Ar) (a b : Int) {n : Nat} (h : l.length ≤ n) (h2 : 2000 ≤ n) : (brkMv l a b).length ≤ n := by
  unfold brkMv
  split
  · exact bd (put_bd _ _) h2
  · split
    · exact bd (cut_bd _ _ _) h2
    · exact h
theorem brk_self {l : List Ar} {m w : Int} (h : ((brkN l m w).er != 0) = true) : brkL l m w = l ∧ brkV l m w = m := by
  unfold brkN at h
  unfold brkL brkV
  by_cases he : (brkE l m w != 0) = true
  · rw [if_pos he, if_pos he]
    exact ⟨rfl, rfl⟩
  · rw [if_neg he] at h ⊢
    rw [if_neg he]
    by_cases hw : (w == 0) = true
    · rw [if_pos hw, if_pos hw]
      exact ⟨rfl, rfl⟩
    · rw [if_neg hw] at h ⊢
      rw [if_neg hw, if_pos h]
      exact ⟨keptN_er h, rfl⟩
end Go.Proofs.Ytbcicjmepojlnaa.Eng
/- Remap: the pure forms; no condition but those typed. -/
namespace Go.Proofs.Ytbcicjmepojlnaa.Eng
open Go Go.RowKit
set_option autoImplicit false
set_option linter.unusedSimpArgs false
set_option linter.unusedVariables false
def rmFl (f : Int) : Int := if (flagsE f 49 != 0) = true then flagsE f 49 else if ((bits .and .i64 f 16 == 0) && bitB f 33) = true then 1 else 0
def rmE0 (c : Cl) : Int := if (rmFl c.f != 0) = true then rmFl c.f else if (rangeE c.a c.n != 0) = true then rangeE c.a c.n else if (sizeE c.w != 0) = true then sizeE c.w else if (bitB c.f 32 && (sizeV c.w != w64 (rangeHi c.a c.n - rangeLo c.a c.n))) = true then 1 else 0
def rmE (l : List Ar) (c : Cl) : Int := if (!mayS l) = true then 1 else if (rmE0 c != 0) = true then rmE0 c else if (!foundL l (rangeLo c.a c.n) || decide ((findL l (rangeLo c.a c.n)).e < rangeHi c.a c.n)) = true then 7 else 0
def rdLo (l : List Ar) (c : Cl) (z : Int) : Int := if (mayS l && (rmFl c.f == 0)) = true then rangeLo c.a c.n else z
def rdHi (l : List Ar) (c : Cl) (z : Int) : Int := if (mayS l && (rmFl c.f == 0)) = true then rangeHi c.a c.n else z
def rdSz (l : List Ar) (c : Cl) (z : Int) : Int := if (mayS l && ((rmFl c.f == 0) && (rangeE c.a c.n == 0))) = true then sizeV c.w else z
def rdW (l : List Ar) (c : Cl) (z : Ar) : Ar := if (rmE l c == 0) = true then findL l (rangeLo c.a c.n) else z
def rdO (l : List Ar) (c : Cl) (z : Ar) : Ar := if (rmE l c == 0) = true then partA (findL l (rangeLo c.a c.n)) (rangeLo c.a c.n) (rangeHi c.a c.n) else z
def longK (b o n : Int) : Bool := (b != 0) && decide (o > w64 (1099511627776 - n))
def mvA (o : Ar) (p n : Int) : Ar := ⟨p, w64 (p + n), o.p, o.sh, o.b, o.o⟩
def mvL (l : List Ar) (f lo hi : Int) (o : Ar) (p n : Int) : List Ar := putL (if bitB f 32 = true then l else cutL l lo hi) (mvA o p n)
def kfE (c : Cl) (lo hi n : Int) (o : Ar) : Int := if (rangeE c.to c.w != 0) = true then rangeE c.to c.w else if (decide (rangeLo c.to c.w < hi) && decide (rangeHi c.to c.w > lo)) = true then 1 else if longK o.b o.o n = true then 4 else 0
def kfL (l : List Ar) (c : Cl) (lo hi n : Int) (o : Ar) : List Ar := if (kfE c lo hi n o != 0) = true then l else keptL l (mvL l c.f lo hi o (rangeLo c.to c.w) n)
def kfN (l : List Ar) (c : Cl) (lo hi n : Int) (o : Ar) : An := if (kfE c lo hi n o != 0) = true then errA (kfE c lo hi n o) else keptN (mvL l c.f lo hi o (rangeLo c.to c.w) n) (rangeLo c.to c.w)
def kaL (l : List Ar) (f lo hi n : Int) (o : Ar) : List Ar := if (placeE l 0 n 0 != 0) = true then l else keptL l (mvL l f lo hi o (placeV l 0 n 0) n)
def kaN (l : List Ar) (f lo hi n : Int) (o : Ar) : An := if (placeE l 0 n 0 != 0) = true then errA (placeE l 0 n 0) else keptN (mvL l f lo hi o (placeV l 0 n 0) n) (placeV l 0 n 0)
def growB (l : List Ar) (lo hi n e : Int) : Bool := (e == hi) && fitsL l hi (w64 (n - w64 (hi - lo)))
def growA (o : Ar) (lo n : Int) : Ar := ⟨o.s, w64 (lo + n), o.p, o.sh, o.b, o.o⟩
def kgL (l : List Ar) (f lo hi n e : Int) (o : Ar) : List Ar := if longK o.b o.o n = true then l else if growB l lo hi n e = true then keptL l (putL l (growA o lo n)) else if bitB f 16 = true then kaL l f lo hi n o else l
def kgN (l : List Ar) (f lo hi n e : Int) (o : Ar) : An := if longK o.b o.o n = true then errA 4 else if growB l lo hi n e = true then keptN (putL l (growA o lo n)) lo else if bitB f 16 = true then kaN l f lo hi n o else errA 5
abbrev rmLo (c : Cl) : Int := rangeLo c.a c.n
abbrev rmHi (c : Cl) : Int := rangeHi c.a c.n
abbrev rmW (l : List Ar) (c : Cl) : Ar := findL l (rangeLo c.a c.n)
abbrev rmO (l : List Ar) (c : Cl) : Ar := partA (findL l (rangeLo c.a c.n)) (rangeLo c.a c.n) (rangeHi c.a c.n)
def remK (l : List Ar) (c : Cl) : List Ar := if bitB c.f 1 = true then kfL l c (rmLo c) (rmHi c) (sizeV c.w) (rmO l c) else if bitB c.f 32 = true then kaL l c.f (rmLo c) (rmHi c) (sizeV c.w) (rmO l c) else if decide (sizeV c.w ≤ w64 (rmHi c - rmLo c)) = true then keptL l (cutL l (w64 (rmLo c + sizeV c.w)) (rmHi c)) else kgL l c.f (rmLo c) (rmHi c) (sizeV c.w) (rmW l c).e (rmO l c)
def remM (l : List Ar) (c : Cl) : An := if bitB c.f 1 = true then kfN l c (rmLo c) (rmHi c) (sizeV c.w) (rmO l c) else if bitB c.f 32 = true then kaN l c.f (rmLo c) (rmHi c) (sizeV c.w) (rmO l c) else if decide (sizeV c.w ≤ w64 (rmHi c - rmLo c)) = true then keptN (cutL l (w64 (rmLo c + sizeV c.w)) (rmHi c)) (rmLo c) else kgN l c.f (rmLo c) (rmHi c) (sizeV c.w) (rmW l c).e (rmO l c)
def remL (l : List Ar) (c : Cl) : List Ar := if (rmE l c != 0) = true then l else remK l c
def remN (l : List Ar) (c : Cl) : An := if (rmE l c != 0) = true then errA (rmE l c) else remM l c
theorem rm_ok0 {l : List Ar} {c : Cl} (h : rmE l c = 0) : mayS l = true ∧ rmFl c.f = 0 ∧ rangeE c.a c.n = 0 ∧ sizeE c.w = 0 ∧ (bitB c.f 32 && (sizeV c.w != w64 (rangeHi c.a c.n - rangeLo c.a c.n))) = false ∧ foundL l (rangeLo c.a c.n) = true ∧ decide ((findL l (rangeLo c.a c.n)).e < rangeHi c.a c.n) = false := by
  unfold rmE at h
  cases hm : mayS l with
  | false => rw [hm] at h; cases h
  | true =>
    rw [hm, if_neg (by simp)] at h
    by_cases h0 : rmE0 c = 0
    · rw [h0, if_neg (by simp)] at h
      have hf : foundL l (rangeLo c.a c.n) = true ∧ decide ((findL l (rangeLo c.a c.n)).e < rangeHi c.a c.n) = false := by
        cases h1 : foundL l (rangeLo c.a c.n) with
        | false => rw [h1] at h; cases h
        | true =>
          cases h2 : decide ((findL l (rangeLo c.a c.n)).e < rangeHi c.a c.n) with
          | true => rw [h1, h2] at h; cases h
          | false => exact ⟨rfl, rfl⟩
      unfold rmE0 at h0
      by_cases k1 : rmFl c.f = 0
      · rw [k1, if_neg (by simp)] at h0
        by_cases k2 : rangeE c.a c.n = 0
        · rw [k2, if_neg (by simp)] at h0
          by_cases k3 : sizeE c.w = 0
          · rw [k3, if_neg (by simp)] at h0
            cases k4 : (bitB c.f 32 && (sizeV c.w != w64 (rangeHi c.a c.n - rangeLo c.a c.n))) with
            | true => rw [k4] at h0; cases h0
            | false => exact ⟨rfl, k1, k2, k3, rfl, hf⟩
          · rw [if_pos (by simpa using k3)] at h0; exact absurd h0 k3
        · rw [if_pos (by simpa using k2)] at h0; exact absurd h0 k2
      · rw [if_pos (by simpa using k1)] at h0; exact absurd h0 k1
    · rw [if_pos (by simpa using h0)] at h; exact absurd h h0
theorem rd_ok {l : List Ar} {c : Cl} (h : rmE l c = 0) (z : Int) (y : Ar) : rdLo l c z = rmLo c ∧ rdHi l c z = rmHi c ∧ rdSz l c z = sizeV c.w ∧ rdW l c y = rmW l c ∧ rdO l c y = rmO l c := by
  obtain ⟨h1, h2, h3, _⟩ := rm_ok0 h
  unfold rdLo rdHi rdSz rdW rdO
  rw [h1, h2, h3, h]
  exact ⟨rfl, rfl, rfl, rfl, rfl⟩
theorem mvL_bd (l : List Ar) (f lo hi : Int) (o : Ar) (p n : Int) : (mvL l f lo hi o p n).length ≤ 2000 := put_bd _ _
end Go.Proofs.Ytbcicjmepojlnaa.Eng
/- Contracts of functions (printed by genx.py of this work): what each hands back; condition: as its 'hside' says. -/
namespace Go.Proofs.Ytbcicjmepojlnaa.Eng
open Go Go.RowKit
set_option linter.unusedVariables false
set_option linter.unusedSimpArgs false
theorem b_rmflags : Bodied Try.prog 155 := bodied Try.func155 rfl (by decide)
def F_rmflags : FunX := fun κ avs => match avs with
  | [.val (.c (.v (.int .i64 f)))] => some (κ _ (True), (.val (.c (.v (.int .i64 (κ _ (rmFl f)))))))
  | _ => none
set_option maxRecDepth 100000 in
set_option maxHeartbeats 4000000 in
theorem k_rmflags (f : Int) (hside : True) (w : World) :
    Calls Try.prog 155 #[(SV.c (.v (.int .i64 f))).den] w fun e w' => ∃ v H', e = .returned v.den ∧ IsX (.val (.c (.v (.int .i64 (rmFl f))))) v H' ∧ HSat w (fun _ => False) H' w' := by
  obtain ⟨κ, hκ⟩ : ∃ κ : Kp, κ = kid := ⟨_, rfl⟩
  have hH : HSat w (fun _ => False) (heapOf [(nilId, .rd none 1 0 [])]) w := by
    subst hκ
    refine HSat.reads fun p hp => ?_
    simp only [List.mem_cons, List.not_mem_nil, or_false] at hp
    rcases hp with rfl
    · exact ⟨_, _, _, _, rfl, nil_holds w⟩
  refine (callsP (n := 17) FTok [e_flags hκ] mixed [] Try.func155 rfl (by kernel_rfl) #[(SV.c (.v (.int .i64 f))).den] [(0, .c (.v (.int .i64 f)))] _ w rfl [.tmp 2] rfl (by simp) (by subst hκ; simp [SV.den, C.den, kid]) hH (fun v H' => IsX (.val (.c (.v (.int .i64 (κ _ (rmFl f)))))) v H') hκ ?_).mono ?_
  rotate_left
  · subst hκ; intro e w' h; exact h
  intro P' hP'
  cbv
  repeat' (first | refine And.intro ?_ ?_ | (intro _; cbv) | (refine tst_mk (fun h => ?_) (fun h => ?_) <;> cbv) | (refine LookX.nil ?_; cbv) | (refine LookX.auto hκ ?_; cbv))
  all_goals (try (show Side _; refine ⟨?_⟩; subst hκ; delta kid at *; first | exact rfl | exact trivial | exact ⟨rfl, rfl, .inl rfl⟩ | ((try dsimp only at *); (try simp only [setTo_len, noS_len, List.length_append, List.length_cons, List.length_nil, List.length_map, and_self, true_or, or_true, eq_self, true_and, and_true, Nat.zero_add, Nat.add_zero]); (first | done | omega); done)))
  all_goals (clear hH; subst hκ; delta kid at *; (try dsimp only at *))
  all_goals (try (exact ⟨trivial⟩))
  all_goals (try (exact ⟨by decide⟩))
  all_goals (show IsX _ _ _; refine IsX.val_ ?_; simp only [SV.den, SV.den0, C.den, List.map_cons, List.map_nil, rmFl, bitB, GT.gt, GE.ge]; (try simp only [*, Bool.or_true, Bool.true_or, Bool.or_false, Bool.false_or, Bool.and_true, Bool.true_and, Bool.and_false, Bool.false_and, Bool.not_true, Bool.not_false, if_true, if_false, Bool.false_eq_true]); (first | done | rfl | (exfalso; simp_all; done) | skip))
def e_rmflags {κ : Kp} (hκ : κ = kid) : ESpec Try.prog := fnES [.flat] b_rmflags F_rmflags hκ fun avs p r hF hp => by
  unfold F_rmflags at hF
  split at hF
  case h_2 => cases hF
  rename_i f
  simp only [kid, Option.some.injEq, Prod.mk.injEq] at hF
  obtain ⟨rfl, rfl⟩ := hF
  refine ⟨trivial, fun vs w hR => ?_⟩
  obtain ⟨vs0, rfl, hR⟩ := hR
  have hR' : vs0 = [] := hR
  subst hR'
  exact k_rmflags f hp w
end Go.Proofs.Ytbcicjmepojlnaa.Eng
