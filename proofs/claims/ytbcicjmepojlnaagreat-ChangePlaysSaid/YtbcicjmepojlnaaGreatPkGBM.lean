/- Texts of this work, laid together: symbolic execution over the model, contracts of the program's functions, what they come to; conditions: as each says. -/
import Derived.Test.YtbcicjmepojlnaaGreatPkGBL
/- What a map comes to, where it comes about: free places, what is mapped again; no condition but those typed. -/
namespace Go.Proofs.YtbcicjmepojlnaaGreat.Eng
open Go Go.RowKit
set_option autoImplicit false
set_option linter.unusedSimpArgs false
set_option linter.unusedVariables false
set_option linter.unusedSectionVars false
structure AskOk (c : Cl) : Prop where
  sz : sizeE c.n = 0
  p0 : 0 ≤ c.p
  p7 : c.p ≤ 7
  f0 : 0 ≤ c.f
  f15 : c.f ≤ 15
  f2 : (bits .and .i64 c.f 3 == 2) = false
  b : backE c.b c.o (sizeV c.n) = 0
theorem ask_ok {c : Cl} (hf : In64 c.f) (h : askE c = 0) : AskOk c := by
  have h2 : sizeE c.n = 0 ∧ protE c.p = 0 ∧ flagsE c.f 15 = 0 ∧ (bits .and .i64 c.f 3 == 2) = false ∧ backE c.b c.o (sizeV c.n) = 0 := by
    unfold askE at h
    by_cases b1 : sizeE c.n = 0
    · rw [b1, if_neg (by simp)] at h
      by_cases b2 : protE c.p = 0
      · rw [b2, if_neg (by simp)] at h
        by_cases b3 : flagsE c.f 15 = 0
        · rw [b3, if_neg (by simp)] at h
          cases b4 : (bits .and .i64 c.f 3 == 2) with
          | true => rw [b4, if_pos rfl] at h; cases h
          | false => rw [b4, if_neg (by simp)] at h; exact ⟨b1, b2, b3, rfl, h⟩
        · rw [if_pos (by simpa using b3)] at h; exact absurd h b3
      · rw [if_pos (by simpa using b2)] at h; exact absurd h b2
    · rw [if_pos (by simpa using b1)] at h; exact absurd h b1
  obtain ⟨k1, k2, k3, k4, k5⟩ := h2
  have hp : 0 ≤ c.p ∧ c.p ≤ 7 := by
    by_cases hc : c.p < 0
    · rw [prot_no (.inl (decide_eq_true hc))] at k2; cases k2
    · by_cases hc2 : 7 < c.p
      · rw [prot_no (.inr (decide_eq_true hc2))] at k2; cases k2
      · omega
  have hff : 0 ≤ c.f ∧ c.f ≤ 15 := by
    by_cases hc : c.f < 0
    · rw [fl15_no hf (.inl (decide_eq_true hc))] at k3; cases k3
    · by_cases hc2 : 15 < c.f
      · rw [fl15_no hf (.inr (decide_eq_true hc2))] at k3; cases k3
      · omega
  exact ⟨k1, hp.1, hp.2, hff.1, hff.2, k4, k5⟩
structure MapOk (l : List Ar) (c : Cl) : Prop where
  ask : AskOk c
  pl : placeE l c.a (sizeV c.n) c.f = 0
  fo : Fo (mapA l c)
  e : (mapA l c).e = mapV l c + sizeV c.n
  eq : mapL l c = putL l (mapA l c)
  n : mapN l c = okA (mapV l c)
  le : (putL l (mapA l c)).length ≤ 24
theorem map_yes {l : List Ar} {c : Cl} (hm : mayS l = true) (ha : In64 c.a) (hf : In64 c.f) (h : (mapN l c).er = 0) : MapOk l c := by
  have he : mapE l c = 0 := by
    unfold mapN at h
    by_cases hb : (mapE l c != 0) = true
    · rw [if_pos hb] at h
      exact h
    · simpa using hb
  have h1 : askE c = 0 ∧ placeE l c.a (sizeV c.n) c.f = 0 := by
    unfold mapE at he
    rw [hm, if_neg (by simp)] at he
    by_cases hb : askE c = 0
    · rw [hb, if_neg (by simp)] at he
      exact ⟨hb, he⟩
    · rw [if_pos (by simpa using hb)] at he
      exact absurd he hb
  obtain ⟨k1, k2⟩ := h1
  have k := ask_ok hf k1
  obtain ⟨hfo, hen⟩ := map_fo hm (by rw [k.sz]; rfl) ha (by rw [decide_eq_false_iff_not]; have := k.p0; omega) (by rw [decide_eq_false_iff_not]; have := k.p7; omega) k.b (by rw [k2]; rfl)
  obtain ⟨g1, g2⟩ := mp_ok hm k1 (by rw [k2]; rfl)
  cases hd : decide ((24 : Int) < ((putL l (mapA l c)).length : Int)) with
  | true =>
    rw [g1, (kept_no (was := l) hd).2] at h
    cases h
  | false =>
    rw [(kept_yes (was := l) hd).2] at g1
    rw [(kept_yes (v := 0) (was := l) hd).1] at g2
    have := of_decide_eq_false hd
    exact ⟨k, k2, hfo, hen, g2, g1, by omega⟩
theorem map_may {l : List Ar} {c : Cl} (hm : mayS l = true) (k : MapOk l c) : mayS (mapL l c) = true := by
  rw [k.eq]
  exact rt_mayS (put_spec (mayS_rt hm).1 k.fo).1 k.le
end Go.Proofs.YtbcicjmepojlnaaGreat.Eng
/- The break: the pure forms; what the reference's pages come to; no condition but those typed. -/
namespace Go.Proofs.YtbcicjmepojlnaaGreat.Eng
open Go Go.RowKit
set_option autoImplicit false
set_option linter.unusedSimpArgs false
set_option linter.unusedVariables false
set_option linter.unusedSectionVars false
theorem le24 (l : List Ar) : decide ((24 : Int) < (l.length : Int)) = !decide ((l.length : Int) ≤ 24) := by
  rw [Bool.eq_iff_iff, Bool.not_eq_true', decide_eq_true_eq, decide_eq_false_iff_not]
  omega
theorem IsX.row3 {mk : C → SV} {r r' : List Ar} {i c2 : Nat} {A2 : Option Addr} {v k k2 : SV} {H' : Heap} (hv : v = .tup [.c (.sl i A2 r'.length c2), k, k2]) (hH : H' i = some (.row A2 c2 49 6 r'.length (encL r'))) (hm : ∀ x, mk x = .tup [.c x, k, k2]) (h : r' = r) : IsX (.row 49 6 r.length (encL r) mk) v H' :=
  IsX.row_ h (hv.trans (hm _).symm) hH
theorem IsX.same3 {b : Bool} {x : C} {mk1 mk2 : C → SV} {r : List Ar} {v k k2 : SV} {H' : Heap} (hv : v = .tup [.c x, k, k2]) (hm : ∀ x, mk1 x = .tup [.c x, k, k2]) (hb : b = true) : IsX (.alt b x mk1 r mk2) v H' :=
  IsX.same_ hb (by rw [hv, hm])
theorem IsX.new3 {b : Bool} {x : C} {mk1 mk2 : C → SV} {r r' : List Ar} {i c2 : Nat} {A2 : Option Addr} {v k k2 : SV} {H' : Heap} (hv : v = .tup [.c (.sl i A2 r'.length c2), k, k2]) (hH : H' i = some (.row A2 c2 49 6 r'.length (encL r'))) (hm : ∀ x, mk2 x = .tup [.c x, k, k2]) (hb : b = false) (h : r' = r) : IsX (.alt b x mk1 r mk2) v H' :=
  IsX.new_ hb h (hv.trans (hm _).symm) hH
def brkR (n : Int) : Bool := decide (65536 ≤ n) && decide (n ≤ 327680)
def brkE (l : List Ar) (m w : Int) : Int := if (!mayS l || !brkR m) = true then 1 else if (w == 0) = true then 0 else if (!brkR w) = true then 4 else if (decide (upG m < upG w) && !fitsL l (upG m) (w64 (upG w - upG m))) = true then 5 else 0
def brkStay (a b : Int) : Bool := !decide (a < b) && !decide (b < a)
def brkMv (l : List Ar) (a b : Int) : List Ar := if decide (a < b) = true then putL l ⟨a, b, 3, false, 0, 0⟩ else if decide (b < a) = true then cutL l b a else l
theorem mv_1 {l : List Ar} {a b : Int} (h : decide (a < b) = true) : brkStay a b = false ∧ putL l ⟨a, b, 3, false, 0, 0⟩ = brkMv l a b := by
  unfold brkStay brkMv
  rw [h]
  exact ⟨rfl, rfl⟩
theorem mv_2 {l : List Ar} {a b : Int} (h : decide (a < b) = false) (h2 : decide (b < a) = true) : brkStay a b = false ∧ cutL l b a = brkMv l a b := by
  unfold brkStay brkMv
  rw [h, h2]
  exact ⟨rfl, rfl⟩
theorem mv_3 {a b : Int} (h : decide (a < b) = false) (h2 : decide (b < a) = false) : brkStay a b = true := by
  unfold brkStay
  rw [h, h2]
  rfl
theorem mv_4 {l : List Ar} {a b : Int} (h : brkStay a b = true) : l = brkMv l a b := by
  unfold brkStay at h
  rw [Bool.and_eq_true, Bool.not_eq_true', Bool.not_eq_true'] at h
  unfold brkMv
  rw [h.1, h.2]
  rfl
def brkK (l : List Ar) (m w : Int) : List Ar := brkMv l (upG m) (upG w)
def brkL (l : List Ar) (m w : Int) : List Ar := if (brkE l m w != 0) = true then l else if (w == 0) = true then l else keptL l (brkK l m w)
def brkN (l : List Ar) (m w : Int) : An := if (brkE l m w != 0) = true then errA (brkE l m w) else if (w == 0) = true then okA m else keptN (brkK l m w) w
def brkV (l : List Ar) (m w : Int) : Int := if (brkE l m w != 0) = true then m else if (w == 0) = true then m else if ((keptN (brkK l m w) w).er != 0) = true then m else w
def brkSame (l : List Ar) (m w : Int) : Bool := (w == 0) || ((brkN l m w).er != 0)
def endB (n : Int) : Int := (n + 4095) / 4096
structure BrOk (n : Int) : Prop where
  lo : 65536 ≤ n
  hi : n ≤ 327680
theorem br_iff (n : Int) : brkR n = true ↔ BrOk n := by
  unfold brkR
  rw [Bool.and_eq_true, decide_eq_true_eq, decide_eq_true_eq]
  exact ⟨fun h => ⟨h.1, h.2⟩, fun h => ⟨h.lo, h.hi⟩⟩
theorem up_end {n : Int} (h : BrOk n) : upG n = 4096 * endB n ∧ 16 ≤ endB n ∧ endB n ≤ 80 := by
  have h1 := h.lo
  have h2 := h.hi
  rw [up_eq (by omega)]
  unfold endB
  omega
theorem brk_fo {a b : Int} (h1 : 16 ≤ a) (h2 : a < b) (h3 : b ≤ 512) : Fo (⟨4096 * a, 4096 * b, 3, false, 0, 0⟩ : Ar) :=
  fo.1 ((formed_iff _).2 ⟨(by show 4096 * a % 4096 = 0; omega), (by show 4096 * b % 4096 = 0; omega), (by show 65536 ≤ 4096 * a; omega), (by show 4096 * b ≤ 2097152; omega), (by show 4096 * a < 4096 * b; omega), (show (0:Int) ≤ 3 by decide), (show (3:Int) ≤ 7 by decide), (show (0:Int) ≤ 0 by decide), (show (0:Int) ≤ 9 by decide), fun _ => rfl, fun h => absurd rfl h⟩)
theorem brk_put {l : List Ar} (hl : Rt l) {a b : Int} (h1 : 16 ≤ a) (h2 : a < b) (h3 : b ≤ 512) : listS (withP ⟨3, false, 0, 0⟩ (4096 * a / 4096).toNat (ofL l) ((4096 * b / 4096).toNat - (4096 * a / 4096).toNat)) = putL l ⟨4096 * a, 4096 * b, 3, false, 0, 0⟩ := by
  have hf := brk_fo h1 h2 h3
  have e1 := with_of hf (s := ofL l) (ofL_len l)
  have hl2 : lenA (⟨4096 * a, 4096 * b, 3, false, 0, 0⟩ : Ar) = (4096 * b / 4096).toNat - (4096 * a / 4096).toNat := by
    unfold lenA
    show (4096 * b / 4096 - 4096 * a / 4096).toNat = _
    omega
  rw [← put_pages hl hf, ← e1, hl2]
theorem brk_cut {l : List Ar} (hl : Rt l) {a b : Int} (h1 : 16 ≤ a) (h2 : a < b) (h3 : b ≤ 512) : listS (woP (4096 * a / 4096).toNat (ofL l) ((4096 * b / 4096).toNat - (4096 * a / 4096).toNat)) = cutL l (4096 * a) (4096 * b) :=
  cut_pages hl ⟨by omega, by omega, by omega, by omega, by omega⟩
theorem list_of {l : List Ar} (hl : Rt l) : listS (ofL l) = l := by
  obtain ⟨h1, h2⟩ := listS_spec (good_of hl)
  exact rt_ext h1 hl fun x t hx => (h2 x t hx).trans ((of_spec hl.ok).1 x t hx)
theorem free_fits {l : List Ar} (hl : Rt l) {a b : Int} (h1 : 16 ≤ a) (h2 : a < b) (h3 : b ≤ 512) : freeS (ofL l) a (b - a) = fitsL l (4096 * a) (4096 * b - 4096 * a) := by
  have k := freeS_iff hl.ok (a := 4096 * a) (n := 4096 * b - 4096 * a) (by omega) (by omega) (by omega) (by omega)
  have e1 : 4096 * a / 4096 = a := by omega
  have e2 : (4096 * b - 4096 * a) / 4096 = b - a := by omega
  rw [e1, e2] at k
  have h64 : In64 (4096 * b - 4096 * a) := by unfold In64; omega
  have k2 := fits_iff hl (a := 4096 * a) (n := 4096 * b - 4096 * a) (by unfold In64; omega) h64
  rw [Bool.eq_iff_iff, k, k2]
  exact ⟨fun h => ⟨(sizeG_iff h64).2 (by omega), by omega, by omega, by omega, h⟩, fun h => h.2.2.2.2⟩
theorem end_y {n : Int} (h : BrOk n) (h2 : decide (0 < Int.tmod n 4096) = true) : IntKind.i64.wrap (IntKind.i64.wrap (Int.tdiv n 4096) + 1) = endB n := by
  have a1 := h.lo
  have a2 := h.hi
  have h2 := of_decide_eq_true h2
  rw [Int.tmod_eq_emod_of_nonneg (by omega)] at h2
  have e1 : IntKind.i64.wrap (Int.tdiv n 4096) = n / 4096 := by rw [Int.tdiv_eq_ediv_of_nonneg (by omega)]; exact w64_id (by unfold In64; omega)
  have e2 : IntKind.i64.wrap (n / 4096 + 1) = n / 4096 + 1 := w64_id (by unfold In64; omega)
  rw [e1, e2]
  unfold endB
  omega
theorem end_n {n : Int} (h : BrOk n) (h2 : decide (0 < Int.tmod n 4096) = false) : IntKind.i64.wrap (Int.tdiv n 4096) = endB n := by
  have a1 := h.lo
  have a2 := h.hi
  have h2 := of_decide_eq_false h2
  rw [Int.tmod_eq_emod_of_nonneg (by omega)] at h2
  have e1 : IntKind.i64.wrap (Int.tdiv n 4096) = n / 4096 := by rw [Int.tdiv_eq_ediv_of_nonneg (by omega)]; exact w64_id (by unfold In64; omega)
  rw [e1]
  unfold endB
  omega
section
variable {l : List Ar} {m w : Int} (hm : mayS l = true) (hb : brkR m = true)
include hm hb
theorem bk_0 (h : (w == 0) = true) : brkE l m w = 0 ∧ brkN l m w = okA m ∧ brkL l m w = l ∧ brkV l m w = m ∧ brkSame l m w = true := by
  have he : brkE l m w = 0 := by unfold brkE; rw [hm, hb, h]; rfl
  refine ⟨he, ?_, ?_, ?_, ?_⟩
  · unfold brkN; rw [he, h]; rfl
  · unfold brkL; rw [he, h]; rfl
  · unfold brkV; rw [he, h]; rfl
  · unfold brkSame; rw [h]; rfl
theorem bk_bad {e : Int} (he : brkE l m w = e) (h : (e != 0) = true) : brkN l m w = errA e ∧ brkL l m w = l ∧ brkV l m w = m ∧ brkSame l m w = true := by
  have e1 : brkN l m w = errA e := by unfold brkN; rw [he, if_pos h]
  refine ⟨e1, ?_, ?_, ?_⟩
  · unfold brkL; rw [he, if_pos h]
  · unfold brkV; rw [he, if_pos h]
  · unfold brkSame; rw [e1]; show (_ || (e != 0)) = true; rw [h, Bool.or_true]
theorem bk_4 (h : (w == 0) = false) (h2 : brkR w = false) : brkE l m w = 4 := by unfold brkE; rw [hm, hb, h, h2]; rfl
theorem bk_5 (h : (w == 0) = false) (h2 : brkR w = true) (h3 : decide (endB m < endB w) = true) (h4 : freeS (ofL l) (endB m) (IntKind.i64.wrap (endB w - endB m)) = false) : brkE l m w = 5 := by
  obtain ⟨u1, u2, u3⟩ := up_end ((br_iff m).1 hb)
  obtain ⟨v1, v2, v3⟩ := up_end ((br_iff w).1 h2)
  have h3' := of_decide_eq_true h3
  have e : IntKind.i64.wrap (endB w - endB m) = endB w - endB m := w64_id (by unfold In64; omega)
  have e2 : w64 (4096 * endB w - 4096 * endB m) = 4096 * endB w - 4096 * endB m := w64_id (by unfold In64; omega)
  rw [e, free_fits (mayS_rt hm).1 u2 h3' (by omega)] at h4
  unfold brkE
  rw [hm, hb, h, h2, u1, v1, e2, h4, show decide (4096 * endB m < 4096 * endB w) = true by rw [decide_eq_true_eq]; omega]
  rfl
theorem bk_ok (h : (w == 0) = false) (h2 : brkR w = true) (h3 : decide (endB m < endB w) = false ∨ freeS (ofL l) (endB m) (IntKind.i64.wrap (endB w - endB m)) = true) : brkE l m w = 0 := by
  obtain ⟨u1, u2, u3⟩ := up_end ((br_iff m).1 hb)
  obtain ⟨v1, v2, v3⟩ := up_end ((br_iff w).1 h2)
  unfold brkE
  rw [hm, hb, h, h2, u1, v1]
  by_cases hlt : endB m < endB w
  · have h3 := h3.resolve_left (by rw [decide_eq_true hlt]; simp)
    have e : IntKind.i64.wrap (endB w - endB m) = endB w - endB m := w64_id (by unfold In64; omega)
    have e2 : w64 (4096 * endB w - 4096 * endB m) = 4096 * endB w - 4096 * endB m := w64_id (by unfold In64; omega)
    rw [e, free_fits (mayS_rt hm).1 u2 hlt (by omega)] at h3
    rw [e2, h3, Bool.not_true, Bool.and_false]
    rfl
  · rw [show decide (4096 * endB m < 4096 * endB w) = false by rw [decide_eq_false_iff_not]; omega]
    rfl
theorem bk_go (h : (w == 0) = false) (he : brkE l m w = 0) : brkN l m w = keptN (brkK l m w) w ∧ brkL l m w = keptL l (brkK l m w) ∧ brkV l m w = (if ((keptN (brkK l m w) w).er != 0) = true then m else w) := by
  refine ⟨?_, ?_, ?_⟩
  · unfold brkN; rw [he, h]; rfl
  · unfold brkL; rw [he, h]; rfl
  · unfold brkV; rw [he, h]; rfl
theorem bk_k1 (h2 : brkR w = true) (h3 : decide (endB m < endB w) = true) : listS (withP ⟨3, false, 0, 0⟩ (IntKind.i64.wrap (4096 * endB m) / 4096).toNat (ofL l) ((IntKind.i64.wrap (4096 * endB w) / 4096).toNat - (IntKind.i64.wrap (4096 * endB m) / 4096).toNat)) = brkK l m w := by
  obtain ⟨u1, u2, u3⟩ := up_end ((br_iff m).1 hb)
  obtain ⟨v1, v2, v3⟩ := up_end ((br_iff w).1 h2)
  have h3' := of_decide_eq_true h3
  have e : IntKind.i64.wrap (4096 * endB m) = 4096 * endB m := w64_id (by unfold In64; omega)
  have e2 : IntKind.i64.wrap (4096 * endB w) = 4096 * endB w := w64_id (by unfold In64; omega)
  rw [e, e2, brk_put (mayS_rt hm).1 u2 h3' (by omega)]
  unfold brkK brkMv
  rw [u1, v1, if_pos (by rw [decide_eq_true_eq]; omega)]
theorem bk_k2 (h2 : brkR w = true) (h3 : decide (endB m < endB w) = false) : listS (woP (IntKind.i64.wrap (4096 * endB w) / 4096).toNat (ofL l) ((IntKind.i64.wrap (4096 * endB m) / 4096).toNat - (IntKind.i64.wrap (4096 * endB w) / 4096).toNat)) = brkK l m w := by
  obtain ⟨u1, u2, u3⟩ := up_end ((br_iff m).1 hb)
  obtain ⟨v1, v2, v3⟩ := up_end ((br_iff w).1 h2)
  have h3' := of_decide_eq_false h3
  have e : IntKind.i64.wrap (4096 * endB m) = 4096 * endB m := w64_id (by unfold In64; omega)
  have e2 : IntKind.i64.wrap (4096 * endB w) = 4096 * endB w := w64_id (by unfold In64; omega)
  rw [e, e2]
  unfold brkK brkMv
  rw [u1, v1, if_neg (by rw [decide_eq_true_eq]; omega)]
  by_cases hlt : endB w < endB m
  · rw [if_pos (by rw [decide_eq_true_eq]; omega), brk_cut (mayS_rt hm).1 v2 hlt (by omega)]
  · rw [if_neg (by rw [decide_eq_true_eq]; omega)]
    have hq : (4096 * endB m / 4096).toNat - (4096 * endB w / 4096).toNat = 0 := by omega
    rw [hq]
    exact list_of (mayS_rt hm).1
theorem bk_same {X : List Ar} (h : (w == 0) = false) (he : brkE l m w = 0) (hx : X = brkK l m w) (hn : decide ((24 : Int) < (X.length : Int)) = true) : brkN l m w = errA 9 ∧ brkV l m w = m ∧ brkSame l m w = true := by
  subst hx
  obtain ⟨g1, g2, g3⟩ := bk_go hm hb h he
  rw [(kept_no (was := l) hn).2] at g1 g3
  exact ⟨g1, g3, by unfold brkSame; rw [g1, h]; rfl⟩
theorem bk_new {X : List Ar} (h : (w == 0) = false) (he : brkE l m w = 0) (hx : X = brkK l m w) (hn : decide ((24 : Int) < (X.length : Int)) = false) : brkN l m w = okA w ∧ brkV l m w = w ∧ brkSame l m w = false ∧ X = brkL l m w := by
  subst hx
  obtain ⟨g1, g2, g3⟩ := bk_go hm hb h he
  rw [(kept_yes (was := l) hn).2] at g1 g3
  rw [(kept_yes (v := 0) (was := l) hn).1] at g2
  exact ⟨g1, g3, by unfold brkSame; rw [g1, h]; rfl, g2.symm⟩
end
theorem br_s1 {m : Int} (h : brkR m = true) : endB m ≤ 9223372036854775000 := by
  have := (up_end ((br_iff m).1 h)).2.2
  omega
theorem br_s2 {m w : Int} (h1 : brkR m = true) (h2 : brkR w = true) (h3 : decide (endB m < endB w) = true) : 0 ≤ IntKind.i64.wrap (4096 * endB m) ∧ IntKind.i64.wrap (4096 * endB m) ≤ IntKind.i64.wrap (4096 * endB w) ∧ IntKind.i64.wrap (4096 * endB w) ≤ 2097152 := by
  obtain ⟨u1, u2, u3⟩ := up_end ((br_iff m).1 h1)
  obtain ⟨v1, v2, v3⟩ := up_end ((br_iff w).1 h2)
  have h3 := of_decide_eq_true h3
  have e : IntKind.i64.wrap (4096 * endB m) = 4096 * endB m := w64_id (by unfold In64; omega)
  have e2 : IntKind.i64.wrap (4096 * endB w) = 4096 * endB w := w64_id (by unfold In64; omega)
  rw [e, e2]
  omega
theorem br_s3 {m w : Int} (h1 : brkR m = true) (h2 : brkR w = true) (h3 : decide (endB m < endB w) = false) : 0 ≤ IntKind.i64.wrap (4096 * endB w) ∧ IntKind.i64.wrap (4096 * endB w) ≤ IntKind.i64.wrap (4096 * endB m) ∧ IntKind.i64.wrap (4096 * endB m) ≤ 2097152 := by
  obtain ⟨u1, u2, u3⟩ := up_end ((br_iff m).1 h1)
  obtain ⟨v1, v2, v3⟩ := up_end ((br_iff w).1 h2)
  have h3 := of_decide_eq_false h3
  have e : IntKind.i64.wrap (4096 * endB m) = 4096 * endB m := w64_id (by unfold In64; omega)
  have e2 : IntKind.i64.wrap (4096 * endB w) = 4096 * endB w := w64_id (by unfold In64; omega)
  rw [e, e2]
  omega
theorem put_fits {s t : List Pg} (hs : s.length = 512) (ht : t.length = 512) : 0 + (encS t).length ≤ (putCells (List.replicate 512 [C.v (.bool false), .v (.int .i64 0), .v (.bool false), .v (.int .i64 0), .v (.int .i64 0)]).flatten 0 (encS s)).length := by
  rw [zero_put hs, encS_len, encS_len, hs, ht]
  omega
theorem brkMv_bd (l : List Ar) (a b : Int) {n : Nat} (h : l.length ≤ n) (h2 : 2000 ≤ n) : (brkMv l a b).length ≤ n := by
  unfold brkMv
  split
  · exact bd (put_bd _ _) h2
  · split
    · exact bd (cut_bd _ _ _) h2
    · exact h
theorem brk_self {l : List Ar} {m w : Int} (h : ((brkN l m w).er != 0) = true) : brkL l m w = l ∧ brkV l m w = m := by
  unfold brkN at h
  unfold brkL brkV
  by_cases he : (brkE l m w != 0) = true
  · rw [if_pos he, if_pos he]
    exact ⟨rfl, rfl⟩
  · rw [if_neg he] at h ⊢
    rw [if_neg he]
    by_cases hw : (w == 0) = true
    · rw [if_pos hw, if_pos hw]
      exact ⟨rfl, rfl⟩
    · rw [if_neg hw] at h ⊢
      rw [if_neg hw, if_pos h]
      exact ⟨keptN_er h, rfl⟩
end Go.Proofs.YtbcicjmepojlnaaGreat.Eng
