/- Texts of this work, laid together: symbolic execution over the model, contracts of the program's functions, what they come to; conditions: as each says. -/
import Derived.Test.YtbcicjmepojlnaaGreatPkGAU
import Derived.Test.YtbcicjmepojlnaaGreatPkGAW
import Derived.Test.YtbcicjmepojlnaaGreatPkGAX
import Derived.Test.YtbcicjmepojlnaaGreatPkGAY
import Derived.Test.YtbcicjmepojlnaaGreatPkGBI
/- Pages put and cut, as lists; some of a range's pages; no condition but those typed. -/
namespace Go.Proofs.YtbcicjmepojlnaaGreat.Eng
open Go Go.RowKit
set_option autoImplicit false
set_option linter.unusedSimpArgs false
set_option linter.unusedVariables false
theorem put_pages {l : List Ar} (hl : Rt l) {a : Ar} (ha : Fo a) : listS (ofA a (ofL l) (lenA a)) = putL l a := by
  obtain ⟨p1, p2⟩ := of_paints (ofL l) a ha (ofL_len l)
  have hg := good_of hl
  have a1 := ha.s0; have a2 := ha.e0; have a3 := ha.lo; have a4 := ha.hi; have a5 := ha.lt
  have hg2 : GoodS (ofA a (ofL l) (lenA a)) := ⟨p1, fun q hq hi => by
    by_cases hin : inA a (4096 * (q : Int))
    · have e := (p2 q hq).1 hin
      rw [e]
      exact ⟨by have := hin.1; omega, ext_good ha hin (by omega)⟩
    · have e := (p2 q hq).2 hin
      rw [e] at hi ⊢
      exact hg.2 q hq hi⟩
  obtain ⟨l1, l2⟩ := listS_spec hg2
  obtain ⟨s1, s2⟩ := put_spec hl ha
  refine rt_ext l1 s1 fun x t hx => ?_
  rw [l2 x t hx, s2 x t hx]
  constructor
  · rintro ⟨q, rfl, g1, g2, g3, g4⟩
    by_cases hin : inA a (4096 * (q : Int))
    · have e := (p2 q g2).1 hin
      rw [e] at g4
      exact .inl ⟨hin, g4⟩
    · have e := (p2 q g2).2 hin
      rw [e] at g3 g4
      exact .inr ⟨g4 ▸ of_has hl.ok g1 g2 g3, hin⟩
  · rintro (⟨hin, rfl⟩ | ⟨hh, hin⟩)
    · have := hin.1
      have := hin.2
      have ex : 4096 * ((x / 4096).toNat : Int) = x := by omega
      have e := (p2 (x / 4096).toNat (by omega)).1 (by rw [ex]; exact hin)
      refine ⟨(x / 4096).toNat, ex.symm, by omega, by omega, by rw [e]; rfl, ?_⟩
      rw [e]
      show ext a (4096 * ((x / 4096).toNat : Int)) = _
      rw [ex]
    · have := has_range hl.1 hh
      have ex : 4096 * ((x / 4096).toNat : Int) = x := by omega
      have e := (p2 (x / 4096).toNat (by omega)).2 (by rw [ex]; exact hin)
      obtain ⟨e1, e2⟩ := has_of hl.ok (q := (x / 4096).toNat) (t := t) (by rw [ex]; exact hh)
      exact ⟨(x / 4096).toNat, ex.symm, by omega, by omega, by rw [e]; exact e1, by rw [e]; exact e2⟩
def woP (q0 : Nat) (s : List Pg) : Nat → List Pg
  | 0 => s
  | k + 1 => (woP q0 s k).set (q0 + k) noPg
theorem woP_len (q0 : Nat) (s : List Pg) : ∀ k, (woP q0 s k).length = s.length
  | 0 => rfl
  | k + 1 => List.length_set.trans (woP_len q0 s k)
theorem woP_get (q0 : Nat) {s : List Pg} (hs : s.length = 512) : ∀ (k : Nat), q0 + k ≤ 512 → ∀ q : Nat, nthP (woP q0 s k) q = if q0 ≤ q ∧ q < q0 + k then noPg else nthP s q
  | 0, _, q => by rw [if_neg (by omega)]; rfl
  | k + 1, hk, q => by
    have ih := woP_get q0 hs k (by omega)
    show nthP ((woP q0 s k).set (q0 + k) _) q = _
    rw [nthP_set _ (by rw [woP_len, hs]; omega), ih]
    by_cases h : q = q0 + k
    · subst h
      rw [if_pos rfl, if_pos (by omega)]
    · rw [if_neg h]
      by_cases h2 : q0 ≤ q ∧ q < q0 + k
      · rw [if_pos h2, if_pos (by omega)]
      · rw [if_neg h2, if_neg (by omega)]
theorem cut_pages {l : List Ar} (hl : Rt l) {lo hi : Int} (h : RgOk lo hi) : listS (woP (lo / 4096).toNat (ofL l) ((hi / 4096).toNat - (lo / 4096).toNat)) = cutL l lo hi := by
  obtain ⟨h1, h2, h3, h4, h5⟩ := h
  have hg := good_of hl
  have hq : (lo / 4096).toNat + ((hi / 4096).toNat - (lo / 4096).toNat) ≤ 512 := by omega
  have get := woP_get (lo / 4096).toNat hg.1 _ hq
  obtain ⟨s1, s2⟩ := cut_spec hl (lo := lo) (hi := hi) (by unfold In64; omega) (by unfold In64; omega)
  have hg2 : GoodS (woP (lo / 4096).toNat (ofL l) ((hi / 4096).toNat - (lo / 4096).toNat)) := ⟨by rw [woP_len, hg.1], fun q hq' hi' => by
    rw [get q] at hi' ⊢
    split at hi'
    · cases hi'
    · rename_i hc
      rw [if_neg hc]
      exact hg.2 q hq' hi'⟩
  obtain ⟨l1, l2⟩ := listS_spec hg2
  refine rt_ext l1 s1 fun x t hx => ?_
  rw [l2 x t hx, s2 x t hx]
  constructor
  · rintro ⟨q, rfl, g1, g2, g3, g4⟩
    rw [get q] at g3 g4
    split at g3
    · cases g3
    · rename_i hc
      rw [if_neg hc] at g4
      refine ⟨g4 ▸ of_has hl.ok g1 g2 g3, fun ht => hc ?_⟩
      have := ht.2.1
      have := ht.2.2
      omega
  · rintro ⟨g1, g2⟩
    have := has_range hl.1 g1
    have ex : 4096 * ((x / 4096).toNat : Int) = x := by omega
    obtain ⟨e1, e2⟩ := has_of hl.ok (q := (x / 4096).toNat) (t := t) (by rw [ex]; exact g1)
    have e : nthP (woP (lo / 4096).toNat (ofL l) ((hi / 4096).toNat - (lo / 4096).toNat)) (x / 4096).toNat = nthP (ofL l) (x / 4096).toNat := by
      rw [get, if_neg]
      intro hc
      exact g2 ⟨h3, by omega, by omega⟩
    exact ⟨(x / 4096).toNat, ex.symm, by omega, by omega, by rw [e]; exact e1, by rw [e]; exact e2⟩
def touB (q : Nat) (lo hi : Int) : Bool := decide (lo < hi) && (decide (lo < 4096 * (q : Int) + 4096) && decide (4096 * (q : Int) < hi))
def someP (s : List Pg) (lo hi : Int) : Bool := (List.range 512).any fun q => (nthP s q).is && touB q lo hi
theorem some_within {l : List Ar} (hl : Rt l) {lo hi : Int} (h : RgOk lo hi) : someP (ofL l) lo hi = lenW l lo hi := by
  obtain ⟨h1, h2, h3, h4, h5⟩ := h
  have hne : ∀ L : List Ar, decide ((0 : Int) < (L.length : Int)) = true ↔ ∃ a, a ∈ L := fun L => by
    cases L with
    | nil => simp
    | cons a r => simp
  rw [Bool.eq_iff_iff]
  unfold lenW
  rw [hne, ← within2_yes (of_rt hl) (by rw [decide_eq_false_iff_not]; omega)]
  unfold someP
  rw [List.any_eq_true]
  constructor
  · rintro ⟨q, hq, hb⟩
    have hq := List.mem_range.1 hq
    rw [Bool.and_eq_true] at hb
    have h16 : 16 ≤ q := by
      by_cases h16 : 16 ≤ q
      · exact h16
      · exact (of_low hl.1 hq (by omega) hb.1).elim
    have hh := of_has hl.ok h16 hq hb.1
    have ht : Touch (4096 * (q : Int)) lo hi := by
      have := hb.2
      unfold touB at this
      rw [Bool.and_eq_true, Bool.and_eq_true, decide_eq_true_eq, decide_eq_true_eq, decide_eq_true_eq] at this
      exact ⟨by omega, by omega, by omega⟩
    obtain ⟨a, ha, _⟩ := (has_within hl.1 (by omega)).2 ⟨hh, ht⟩
    exact ⟨a, ha⟩
  · rintro ⟨a, ha⟩
    have hf := fo.1 (parts_fm (within_parts lo hi) hl.1 a ha)
    have b1 := hf.s0; have b2 := hf.lo; have b3 := hf.lt; have b4 := hf.hi
    have hh : Has (withinL l lo hi) a.s (ext a a.s) := ⟨a, ha, ⟨Int.le_refl _, b3⟩, rfl⟩
    obtain ⟨g1, g2⟩ := (has_within hl.1 b1).1 hh
    have ex : 4096 * ((a.s / 4096).toNat : Int) = a.s := by omega
    have e1 := (has_of hl.ok (q := (a.s / 4096).toNat) (by rw [ex]; exact g1)).1
    refine ⟨(a.s / 4096).toNat, List.mem_range.2 (by omega), ?_⟩
    rw [Bool.and_eq_true]
    refine ⟨e1, ?_⟩
    unfold touB
    have := g2.2.1
    have := g2.2.2
    rw [Bool.and_eq_true, Bool.and_eq_true, decide_eq_true_eq, decide_eq_true_eq, decide_eq_true_eq]
    omega
end Go.Proofs.YtbcicjmepojlnaaGreat.Eng
/- The reference's With, Without, Some: pages put, cut, found; no condition but those typed. -/
namespace Go.Proofs.YtbcicjmepojlnaaGreat.Eng
open Go Go.RowKit
set_option autoImplicit false
set_option linter.unusedSimpArgs false
set_option linter.unusedVariables false
def offW (b o : Int) : Nat → Int
  | 0 => o
  | k + 1 => if decide (0 < b) = true then IntKind.i64.wrap (offW b o k + 4096) else offW b o k
theorem offW_y {b o : Int} {k : Nat} (h : decide (0 < b) = true) : IntKind.i64.wrap (offW b o k + 4096) = offW b o (k + 1) := (if_pos h).symm
theorem offW_n {b o : Int} {k : Nat} (h : decide (0 < b) = false) : offW b o k = offW b o (k + 1) := (if_neg (by rw [h]; simp)).symm
def pgW (t : At) (k : Nat) : Pg := ⟨true, ⟨t.p, t.sh, t.b, offW t.b t.o k⟩⟩
def withP (t : At) (q0 : Nat) (s : List Pg) : Nat → List Pg
  | 0 => s
  | k + 1 => (withP t q0 s k).set (q0 + k) (pgW t k)
theorem withP_len (t : At) (q0 : Nat) (s : List Pg) : ∀ k, (withP t q0 s k).length = s.length
  | 0 => rfl
  | k + 1 => List.length_set.trans (withP_len t q0 s k)
theorem withP_get (t : At) (q0 : Nat) {s : List Pg} (hs : s.length = 512) : ∀ (k : Nat), q0 + k ≤ 512 → ∀ q : Nat, nthP (withP t q0 s k) q = if q0 ≤ q ∧ q < q0 + k then pgW t (q - q0) else nthP s q
  | 0, _, q => by rw [if_neg (by omega)]; rfl
  | k + 1, hk, q => by
    have ih := withP_get t q0 hs k (by omega)
    show nthP ((withP t q0 s k).set (q0 + k) _) q = _
    rw [nthP_set _ (by rw [withP_len, hs]; omega), ih]
    by_cases h : q = q0 + k
    · subst h
      rw [if_pos rfl, if_pos (by omega), show q0 + k - q0 = k by omega]
    · rw [if_neg h]
      by_cases h2 : q0 ≤ q ∧ q < q0 + k
      · rw [if_pos h2, if_pos (by omega)]
      · rw [if_neg h2, if_neg (by omega)]
theorem offW_eq {b o : Int} (hb : 0 < b) (h0 : 0 ≤ o) : ∀ k : Nat, k ≤ 512 → o ≤ 1099511627776 → offW b o k = o + 4096 * (k : Int)
  | 0, _, _ => by show o = _; omega
  | k + 1, hk, ho => by
    have ih := offW_eq hb h0 k (by omega) ho
    show (if _ then _ else _) = _
    rw [if_pos (by rw [decide_eq_true_eq]; exact hb), ih]
    have e : IntKind.i64.wrap (o + 4096 * (k : Int) + 4096) = o + 4096 * (k : Int) + 4096 := w64_id (by unfold In64; omega)
    rw [e]
    omega
theorem offW_0 {b o : Int} (hb : ¬ 0 < b) : ∀ k : Nat, offW b o k = o
  | 0 => rfl
  | k + 1 => by
    show (if _ then _ else _) = _
    rw [if_neg (by rw [decide_eq_true_eq]; exact hb)]
    exact offW_0 hb k
theorem pg_ext {s t : List Pg} (h1 : s.length = 512) (h2 : t.length = 512) (h : ∀ q, q < 512 → nthP s q = nthP t q) : s = t := by
  refine List.ext_getElem (by rw [h1, h2]) fun q hq hq2 => ?_
  have e := h q (by omega)
  have e1 := nthP_get hq
  have e2 := nthP_get hq2
  rw [List.getElem?_eq_getElem hq] at e1
  rw [List.getElem?_eq_getElem hq2] at e2
  injection e1 with e1
  injection e2 with e2
  rw [e1, e2, e]
theorem with_of {a : Ar} (ha : Fo a) {s : List Pg} (hs : s.length = 512) : withP ⟨a.p, a.sh, a.b, a.o⟩ (a.s / 4096).toNat s (lenA a) = ofA a s (lenA a) := by
  have a1 := ha.s0; have a2 := ha.e0; have a3 := ha.lo; have a4 := ha.hi; have a5 := ha.lt; have a6 := ha.b0
  have hl : (lenA a : Int) = a.e / 4096 - a.s / 4096 := by unfold lenA; omega
  refine pg_ext (by rw [withP_len, hs]) (by rw [ofA_len, hs]) fun q hq => ?_
  rw [withP_get _ _ hs _ (by omega), ofA_get ha hs _ (Nat.le_refl _)]
  by_cases h : (a.s / 4096).toNat ≤ q ∧ q < (a.s / 4096).toNat + lenA a
  · rw [if_pos h, if_pos (by omega)]
    unfold pgW pgOf ext
    congr 2
    show offW a.b a.o _ = offP a _
    unfold offP
    by_cases hb : a.b = 0
    · rw [if_pos hb, offW_0 (by omega)]
      exact ha.oz hb
    · have hm := ha.om hb
      rw [if_neg hb, offW_eq (by omega) (by omega) _ (by omega) (by omega)]
      omega
  · rw [if_neg h, if_neg (by omega)]
theorem page_put5 {s : List Pg} (hs : s.length = 512) {m : Nat} (hm : m < 512) (p : Pg) : putCells (encS s) (0 + ((m : Nat) : Int).toNat * 5) [.v (.bool p.is), .v (.int .i64 p.t.p), .v (.bool p.t.sh), .v (.int .i64 p.t.b), .v (.int .i64 p.t.o)] = encS (s.set m p) := by
  rw [Int.toNat_natCast, Nat.zero_add]
  exact page_put p (by omega)
theorem page_fit5 {s : List Pg} (hs : s.length = 512) {m : Nat} (hm : m < 512) : 0 + ((m : Nat) : Int).toNat * 5 + 5 ≤ (encS s).length := by
  rw [encS_len, hs, Int.toNat_natCast]
  omega
def SomeTo (s : List Pg) (lo hi : Int) (k : Nat) : Prop := ∀ j, j < k → ((nthP s j).is && touB j lo hi) = false
theorem someTo_next {s : List Pg} {lo hi : Int} {k : Nat} (h : SomeTo s lo hi k) (hk : ((nthP s k).is && touB k lo hi) = false) : SomeTo s lo hi (k + 1) := fun j hj => by
  by_cases hjk : j = k
  · subst hjk; exact hk
  · exact h j (by omega)
theorem some_all {s : List Pg} {lo hi : Int} (h : SomeTo s lo hi 512) : someP s lo hi = false := by
  cases hb : someP s lo hi with
  | false => rfl
  | true =>
    obtain ⟨q, hq, h2⟩ := List.any_eq_true.1 hb
    rw [h q (List.mem_range.1 hq)] at h2
    cases h2
theorem some_one {s : List Pg} {lo hi : Int} {k : Nat} (hk : k < 512) (h1 : (nthP s k).is = true) (h2 : touB k lo hi = true) : someP s lo hi = true :=
  List.any_eq_true.2 ⟨k, List.mem_range.2 hk, by rw [h1, h2]; rfl⟩
theorem some_n1 {s : List Pg} {lo hi : Int} {k : Nat} (h1 : (nthP s k).is = false) : ((nthP s k).is && touB k lo hi) = false := by rw [h1]; rfl
theorem some_n2 {s : List Pg} {lo hi : Int} {k : Nat} (h1 : touB k lo hi = false) : ((nthP s k).is && touB k lo hi) = false := by rw [h1, Bool.and_false]
theorem tou_a {p : Int} {lo hi : Int} (h : decide (lo < hi) = false) : touB p.toNat lo hi = false := by unfold touB; rw [h]; rfl
theorem tou_w {p : Int} (h : 0 ≤ p ∧ p < 512) : IntKind.i64.wrap (4096 * p) = 4096 * (p.toNat : Int) ∧ IntKind.i64.wrap (4096 * (p.toNat : Int) + 4096) = 4096 * (p.toNat : Int) + 4096 := by
  have e1 : IntKind.i64.wrap (4096 * p) = 4096 * p := w64_id (by unfold In64; omega)
  have e2 : IntKind.i64.wrap (4096 * (p.toNat : Int) + 4096) = 4096 * (p.toNat : Int) + 4096 := w64_id (by unfold In64; omega)
  rw [e1]
  exact ⟨by omega, e2⟩
theorem tou_b {p : Int} {lo hi : Int} (hp : 0 ≤ p ∧ p < 512) (h1 : decide (lo < hi) = true) (h : decide (lo < IntKind.i64.wrap (IntKind.i64.wrap (4096 * p) + 4096)) = false) : touB p.toNat lo hi = false := by
  rw [(tou_w hp).1, (tou_w hp).2] at h
  unfold touB
  rw [h, Bool.false_and, Bool.and_false]
theorem tou_c {p : Int} {lo hi : Int} (hp : 0 ≤ p ∧ p < 512) (h1 : decide (lo < hi) = true) (h : decide (lo < IntKind.i64.wrap (IntKind.i64.wrap (4096 * p) + 4096)) = true) : decide (IntKind.i64.wrap (4096 * p) < hi) = touB p.toNat lo hi := by
  rw [(tou_w hp).1, (tou_w hp).2] at h
  rw [(tou_w hp).1]
  unfold touB
  rw [h, h1]
  rfl
end Go.Proofs.YtbcicjmepojlnaaGreat.Eng
/- Contracts of functions (printed by genx.py of this work): what each hands back; condition: as its 'hside' says. -/
namespace Go.Proofs.YtbcicjmepojlnaaGreat.Eng
open Go Go.RowKit
set_option linter.unusedVariables false
set_option linter.unusedSimpArgs false
theorem b_touched : Bodied Tryz.prog 106 := bodied Tryz.func106 rfl (by decide)
def F_touched : FunX := fun κ avs => match avs with
  | [.val (.c (.v (.int .i64 p))), .val (.c (.v (.int .i64 lo))), .val (.c (.v (.int .i64 hi)))] => some (κ _ (0 ≤ p ∧ p < 512), (.val (.c (.v (.bool (κ _ (touB p.toNat lo hi)))))))
  | _ => none
set_option maxRecDepth 100000 in
set_option maxHeartbeats 4000000 in
theorem k_touched (p : Int) (lo : Int) (hi : Int) (hside : 0 ≤ p ∧ p < 512) (w : World) :
    Calls Tryz.prog 106 #[(SV.c (.v (.int .i64 p))).den, (SV.c (.v (.int .i64 lo))).den, (SV.c (.v (.int .i64 hi))).den] w fun e w' => ∃ v H', e = .returned v.den ∧ IsX (.val (.c (.v (.bool (touB p.toNat lo hi))))) v H' ∧ HSat w (fun _ => False) H' w' := by
  obtain ⟨κ, hκ⟩ : ∃ κ : Kp, κ = kid := ⟨_, rfl⟩
  have hH : HSat w (fun _ => False) (heapOf [(nilId, .rd none 1 0 [])]) w := by
    subst hκ
    refine HSat.reads fun p hp => ?_
    simp only [List.mem_cons, List.not_mem_nil, or_false] at hp
    rcases hp with rfl
    · exact ⟨_, _, _, _, rfl, nil_holds w⟩
  refine (callsP (n := 23) FTok [] mixed [] Tryz.func106 rfl (by kernel_rfl) #[(SV.c (.v (.int .i64 p))).den, (SV.c (.v (.int .i64 lo))).den, (SV.c (.v (.int .i64 hi))).den] [(0, .c (.v (.int .i64 p))), (1, .c (.v (.int .i64 lo))), (2, .c (.v (.int .i64 hi)))] _ w rfl [.tmp 6] rfl (by simp) (by subst hκ; simp [SV.den, C.den, kid]) hH (fun v H' => IsX (.val (.c (.v (.bool (κ _ (touB p.toNat lo hi)))))) v H') hκ ?_).mono ?_
  rotate_left
  · subst hκ; intro e w' h; exact h
  intro P' hP'
  cbv
  repeat' (first | refine And.intro ?_ ?_ | (intro _; cbv) | (refine tst_mk (fun h => ?_) (fun h => ?_) <;> cbv) | (refine LookX.nil ?_; cbv) | (refine LookX.auto hκ ?_; cbv))
  all_goals (clear hH; subst hκ; delta kid at *; (try dsimp only at *))
  all_goals (show IsX _ _ _; first | exact IsX.bool_ (tou_a (by with_reducible assumption)).symm | exact IsX.bool_ (tou_b hside (by with_reducible assumption) (by with_reducible assumption)).symm | exact IsX.bool_ (tou_c hside (by with_reducible assumption) (by with_reducible assumption)))
def e_touched {κ : Kp} (hκ : κ = kid) : ESpec Tryz.prog := fnES [.flat, .flat, .flat] b_touched F_touched hκ fun avs p r hF hp => by
  unfold F_touched at hF
  split at hF
  case h_2 => cases hF
  rename_i p lo hi
  simp only [kid, Option.some.injEq, Prod.mk.injEq] at hF
  obtain ⟨rfl, rfl⟩ := hF
  refine ⟨trivial, fun vs w hR => ?_⟩
  obtain ⟨vs0, rfl, hR⟩ := hR
  obtain ⟨vs1, rfl, hR⟩ := hR
  obtain ⟨vs2, rfl, hR⟩ := hR
  have hR' : vs2 = [] := hR
  subst hR'
  exact k_touched p lo hi hp w
theorem b_rsomeP : Bodied Tryz.prog 91 := bodied Tryz.func91 rfl (by decide)
def F_rsomeP : FunX := fun κ avs => match avs with
  | [.spc s, .val (.c (.v (.int .i64 lo))), .val (.c (.v (.int .i64 hi)))] => some (κ _ (True), (.val (.c (.v (.bool (κ _ (someP s lo hi)))))))
  | _ => none
set_option maxRecDepth 100000 in
set_option maxHeartbeats 4000000 in
theorem k_rsomeP (s : List Pg) (lo : Int) (hi : Int) (hside : True) (ns : s.length = 512) (w : World) :
    Calls Tryz.prog 91 #[(SV.agg (encS s)).den, (SV.c (.v (.int .i64 lo))).den, (SV.c (.v (.int .i64 hi))).den] w fun e w' => ∃ v H', e = .returned v.den ∧ IsX (.val (.c (.v (.bool (someP s lo hi))))) v H' ∧ HSat w (fun _ => False) H' w' := by
  obtain ⟨κ, hκ⟩ : ∃ κ : Kp, κ = kid := ⟨_, rfl⟩
  have hH : HSat w (fun _ => False) (heapOf [(nilId, .rd none 1 0 [])]) w := by
    subst hκ
    refine HSat.reads fun p hp => ?_
    simp only [List.mem_cons, List.not_mem_nil, or_false] at hp
    rcases hp with rfl
    · exact ⟨_, _, _, _, rfl, nil_holds w⟩
  refine (callsP (n := 22) FTok [e_touched hκ] mixed [] Tryz.func91 rfl (by kernel_rfl) #[(SV.agg (encS s)).den, (SV.c (.v (.int .i64 lo))).den, (SV.c (.v (.int .i64 hi))).den] [(0, .agg (κ _ (encS s))), (1, .c (.v (.int .i64 lo))), (2, .c (.v (.int .i64 hi)))] _ w rfl [.tmp 6] rfl (by simp) (by subst hκ; simp [SV.den, C.den, kid]) hH (fun v H' => IsX (.val (.c (.v (.bool (κ _ (someP s lo hi)))))) v H') hκ ?_).mono ?_
  rotate_left
  · subst hκ; intro e w' h; exact h
  intro P' hP'
  cbv
  repeat' (first | refine And.intro ?_ ?_ | (intro _; cbv) | (refine tst_mk (fun h => ?_) (fun h => ?_) <;> cbv) | (refine LookX.nil ?_; cbv) | (refine LookX.auto hκ ?_; cbv))
  all_goals (try (show _ = true; subst hκ; delta kid; (have ho := encS_ok (s); generalize encS (s) = xs at ho ⊢; cases xs <;> exact ho)))
  rename_i b3
  refine loopP hP' FTok [e_touched hκ] mixed [1, 2, 3] (σ := {k : Nat // k ≤ 512 ∧ SomeTo s lo hi k}) (fun q => [(7, .c (.v (.int .i64 (κ _ ((q.1 : Nat) : Int)))))]) (fun q => [(3, .blk b3 90 (κ _ (encS s)))]) (fun q => 512 - q.1) ⟨0, Nat.zero_le _, fun j hj => absurd hj (Nat.not_lt_zero j)⟩ [3] ?_ (by decide) ?_ hκ ?_
  · cbv
    all_goals (subst hκ; delta kid; repeat' (first | exact rfl | exact trivial | refine And.intro ?_ ?_))
  · cbv
    all_goals (subst hκ; delta kid; repeat' (first | exact rfl | exact trivial | refine And.intro ?_ ?_))
  rintro ⟨k, hk, hf⟩
  cbv
  refine tst_mk (fun h => ?_) (fun h => ?_)
  · have hx : k < 512 := by subst hκ; delta kid at h; have h2 : ((k : Nat) : Int) < 512 := of_decide_eq_true h; omega
    cbv
    repeat' (first | refine And.intro ?_ ?_ | (intro _; cbv) | (refine tst_mk (fun h => ?_) (fun h => ?_) <;> cbv) | (refine LookX.nil ?_; cbv) | (refine LookX.auto hκ ?_; cbv) | (refine LookR.mk' (x := .v (.bool (κ _ (nthP s k).is))) (by subst hκ; delta kid at *; exact page_is' ns hx) ?_; cbv))
    all_goals (try (show Side _; (clear hH; subst hκ; delta kid at *; (try dsimp only at *)); first | exact ⟨page_ix hx⟩ | (refine ⟨?_⟩; show 0 ≤ ((k : Nat) : Int) ∧ ((k : Nat) : Int) < 512; omega)))
    all_goals (clear hH; subst hκ; delta kid at *; (try dsimp only at *))
    all_goals (try simp only [Int.toNat_natCast] at *)
    all_goals (first | exact IsX.bool_ (some_one hx (by with_reducible assumption) (by with_reducible assumption)).symm | (refine ⟨⟨⟨k + 1, hx, someTo_next hf (some_n1 (by with_reducible assumption))⟩, [3], (by show 512 - (k + 1) < 512 - k; omega), by decide, ?_, ?_⟩⟩ <;> repeat' (first | exact rfl | exact trivial | refine And.intro ?_ ?_ | exact congrArg (Value.int .i64) (nat_succ (by omega)))) | (refine ⟨⟨⟨k + 1, hx, someTo_next hf (some_n2 (by with_reducible assumption))⟩, [3], (by show 512 - (k + 1) < 512 - k; omega), by decide, ?_, ?_⟩⟩ <;> repeat' (first | exact rfl | exact trivial | refine And.intro ?_ ?_ | exact congrArg (Value.int .i64) (nat_succ (by omega)))))
  · have hx : k = 512 := by subst hκ; delta kid at h; have h2 : ¬ ((k : Nat) : Int) < 512 := of_decide_eq_false h; omega
    subst hx
    cbv
    (clear hH; subst hκ; delta kid at *; (try dsimp only at *))
    exact IsX.bool_ (some_all hf).symm
def e_rsomeP {κ : Kp} (hκ : κ = kid) : ESpec Tryz.prog := fnES [.space, .flat, .flat] b_rsomeP F_rsomeP hκ fun avs p r hF hp => by
  unfold F_rsomeP at hF
  split at hF
  case h_2 => cases hF
  rename_i s lo hi
  simp only [kid, Option.some.injEq, Prod.mk.injEq] at hF
  obtain ⟨rfl, rfl⟩ := hF
  refine ⟨trivial, fun vs w hR => ?_⟩
  obtain ⟨vs0, rfl, ns, hR⟩ := hR
  obtain ⟨vs1, rfl, hR⟩ := hR
  obtain ⟨vs2, rfl, hR⟩ := hR
  have hR' : vs2 = [] := hR
  subst hR'
  exact k_rsomeP s lo hi hp ns w
theorem b_rwithout : Bodied Tryz.prog 59 := bodied Tryz.func59 rfl (by decide)
def F_rwithout : FunX := fun κ avs => match avs with
  | [.spc s, .val (.c (.v (.int .i64 lo))), .val (.c (.v (.int .i64 hi)))] => some (κ _ (0 ≤ lo ∧ lo ≤ hi ∧ hi ≤ 2097152), (.val (.agg (κ _ (encS (woP (lo / 4096).toNat s ((hi / 4096).toNat - (lo / 4096).toNat)))))))
  | _ => none
set_option maxRecDepth 100000 in
set_option maxHeartbeats 4000000 in
theorem k_rwithout (s : List Pg) (lo : Int) (hi : Int) (hside : 0 ≤ lo ∧ lo ≤ hi ∧ hi ≤ 2097152) (ns : s.length = 512) (w : World) :
    Calls Tryz.prog 59 #[(SV.agg (encS s)).den, (SV.c (.v (.int .i64 lo))).den, (SV.c (.v (.int .i64 hi))).den] w fun e w' => ∃ v H', e = .returned v.den ∧ IsX (.val (.agg (encS (woP (lo / 4096).toNat s ((hi / 4096).toNat - (lo / 4096).toNat))))) v H' ∧ HSat w (fun _ => False) H' w' := by
  obtain ⟨κ, hκ⟩ : ∃ κ : Kp, κ = kid := ⟨_, rfl⟩
  have hH : HSat w (fun _ => False) (heapOf [(nilId, .rd none 1 0 [])]) w := by
    subst hκ
    refine HSat.reads fun p hp => ?_
    simp only [List.mem_cons, List.not_mem_nil, or_false] at hp
    rcases hp with rfl
    · exact ⟨_, _, _, _, rfl, nil_holds w⟩
  refine (callsP (n := 20) FTok [] mixed [] Tryz.func59 rfl (by kernel_rfl) #[(SV.agg (encS s)).den, (SV.c (.v (.int .i64 lo))).den, (SV.c (.v (.int .i64 hi))).den] [(0, .agg (κ _ (encS s))), (1, .c (.v (.int .i64 lo))), (2, .c (.v (.int .i64 hi)))] _ w rfl [.cell 6 90] rfl (by simp) (by subst hκ; simp [SV.den, C.den, kid]) hH (fun v H' => IsX (.val (.agg (κ _ (encS (woP (lo / 4096).toNat s ((hi / 4096).toNat - (lo / 4096).toNat)))))) v H') hκ ?_).mono ?_
  rotate_left
  · subst hκ; intro e w' h; exact h
  intro P' hP'
  cbv
  repeat' (first | refine And.intro ?_ ?_ | (intro _; cbv) | (refine tst_mk (fun h => ?_) (fun h => ?_) <;> cbv) | (refine LookX.nil ?_; cbv) | (refine LookX.auto hκ ?_; cbv))
  all_goals (try (show _ = true; subst hκ; delta kid; (have ho := encS_ok (s); generalize encS (s) = xs at ho ⊢; cases xs <;> exact ho)))
  all_goals (try (show Side _; (clear hH; subst hκ; delta kid at *; (try dsimp only at *)); exact ⟨by decide⟩))
  rename_i b3 b6
  have hq0 := pro_q (a := lo) hside.1 (by omega)
  have hq1 := pro_q (a := hi) (by omega) hside.2.2
  obtain ⟨q0, e0⟩ : ∃ q, q = (lo / 4096).toNat := ⟨_, rfl⟩
  obtain ⟨q1, e1⟩ : ∃ q, q = (hi / 4096).toNat := ⟨_, rfl⟩
  have w0 : IntKind.i64.wrap (Int.tdiv lo 4096) = (q0 : Int) := by rw [e0]; exact hq0.1
  have w1 : IntKind.i64.wrap (Int.tdiv hi 4096) = (q1 : Int) := by rw [e1]; exact hq1.1
  have hq2 : q1 ≤ 512 := by omega
  have hq3 : q0 ≤ q1 := by omega
  refine loopP hP' FTok [] mixed [1, 2, 3, 6] (σ := {k : Nat // q0 + k ≤ q1}) (fun q => [(7, .c (.v (.int .i64 (κ _ ((q0 + q.1 : Nat) : Int)))))]) (fun q => [(3, .blk b3 90 (κ _ (encS (woP q0 s q.1)))), (6, .blk b6 90 (κ _ (encS noS)))]) (fun q => q1 - (q0 + q.1)) ⟨0, hq3⟩ [3, 6] ?_ (by decide) ?_ hκ ?_
  · cbv
    all_goals (subst hκ; delta kid; repeat' (first | exact rfl | exact trivial | refine And.intro ?_ ?_ | exact congrArg (Value.int .i64) w0))
  · cbv
    all_goals (subst hκ; delta kid; repeat' (first | exact rfl | exact trivial | refine And.intro ?_ ?_ | exact congrArg (List.map C.den) encS_noS))
  rintro ⟨k, hk⟩
  cbv
  refine ⟨⟨by subst hκ; delta kid; decide⟩, ?_⟩
  refine tst_mk (fun h => ?_) (fun h => ?_)
  · have hx : q0 + k < q1 := by subst hκ; delta kid at h; exact pro_lt w1 h
    have hm : q0 + k < 512 := by omega
    have hn : (woP q0 s k).length = 512 := by rw [woP_len, ns]
    cbv
    repeat' (first | refine And.intro ?_ ?_ | (intro _; cbv) | (refine tst_mk (fun h => ?_) (fun h => ?_) <;> cbv) | (refine LookX.nil ?_; cbv) | (refine LookX.auto hκ ?_; cbv))
    all_goals (clear hH; subst hκ; delta kid at *; (try dsimp only at *))
    all_goals (try (exact ⟨page_ix hm⟩))
    all_goals (try (exact ⟨page_fit5 hn hm⟩))
    refine ⟨⟨⟨k + 1, (by omega)⟩, [3, 6], (by show q1 - (q0 + (k + 1)) < q1 - (q0 + k); omega), by decide, ?_, ?_⟩⟩
    all_goals repeat' (first | exact rfl | exact trivial | refine And.intro ?_ ?_ | exact congrArg (Value.int .i64) (nat_succ (by omega)) | exact congrArg (List.map C.den) (page_put5 hn hm noPg))
  · have hx : q0 + k = q1 := by subst hκ; delta kid at h; exact Nat.le_antisymm hk (pro_ge w1 h)
    have hn : (woP q0 s k).length = 512 := by rw [woP_len, ns]
    cbv
    repeat' (first | refine And.intro ?_ ?_ | (intro _; cbv) | (refine tst_mk (fun h => ?_) (fun h => ?_) <;> cbv) | (refine LookX.nil ?_; cbv) | (refine LookX.auto hκ ?_; cbv) | (refine LookN.mk' (x := κ _ (encS (woP q0 s k))) (by subst hκ; delta kid at *; exact whole_take hn) ?_; cbv) | (refine LookN.mk' (x := κ _ (encS (woP q0 s k))) (by subst hκ; delta kid at *; exact whole_put hn noS_len) ?_; cbv))
    all_goals (try (show _ = true; subst hκ; delta kid; (have ho := encS_ok (woP q0 s k); generalize encS (woP q0 s k) = xs at ho ⊢; cases xs <;> exact ho)))
    all_goals (try (show 2560 = _; subst hκ; delta kid; (have ho := encS_len2 (s := woP q0 s k) (hn); generalize encS (woP q0 s k) = xs at ho ⊢; cases xs <;> exact ho.symm)))
    all_goals (clear hH; subst hκ; delta kid at *; (try dsimp only at *))
    all_goals (try (exact ⟨by rw [encS_len, encS_len, hn, noS_len]; omega⟩))
    obtain rfl : k = q1 - q0 := by omega
    subst e0 e1
    exact IsX.val_ rfl
def e_rwithout {κ : Kp} (hκ : κ = kid) : ESpec Tryz.prog := fnES [.space, .flat, .flat] b_rwithout F_rwithout hκ fun avs p r hF hp => by
  unfold F_rwithout at hF
  split at hF
  case h_2 => cases hF
  rename_i s lo hi
  simp only [kid, Option.some.injEq, Prod.mk.injEq] at hF
  obtain ⟨rfl, rfl⟩ := hF
  refine ⟨trivial, fun vs w hR => ?_⟩
  obtain ⟨vs0, rfl, ns, hR⟩ := hR
  obtain ⟨vs1, rfl, hR⟩ := hR
  obtain ⟨vs2, rfl, hR⟩ := hR
  have hR' : vs2 = [] := hR
  subst hR'
  exact k_rwithout s lo hi hp ns w
theorem b_rwith : Bodied Tryz.prog 56 := bodied Tryz.func56 rfl (by decide)
def F_rwith : FunX := fun κ avs => match avs with
  | [.spc s, .val (.c (.v (.int .i64 lo))), .val (.c (.v (.int .i64 hi))), .val (.agg [.v (.int .i64 t1), .v (.bool t2), .v (.int .i64 t3), .v (.int .i64 t4)])] => some (κ _ (0 ≤ lo ∧ lo ≤ hi ∧ hi ≤ 2097152), (.val (.agg (κ _ (encS (withP (⟨t1, t2, t3, t4⟩ : At) (lo / 4096).toNat s ((hi / 4096).toNat - (lo / 4096).toNat)))))))
  | _ => none
set_option maxRecDepth 100000 in
set_option maxHeartbeats 4000000 in
theorem k_rwith (s : List Pg) (lo : Int) (hi : Int) (t1 : Int) (t2 : Bool) (t3 : Int) (t4 : Int) (hside : 0 ≤ lo ∧ lo ≤ hi ∧ hi ≤ 2097152) (ns : s.length = 512) (w : World) :
    Calls Tryz.prog 56 #[(SV.agg (encS s)).den, (SV.c (.v (.int .i64 lo))).den, (SV.c (.v (.int .i64 hi))).den, (SV.agg [.v (.int .i64 t1), .v (.bool t2), .v (.int .i64 t3), .v (.int .i64 t4)]).den] w fun e w' => ∃ v H', e = .returned v.den ∧ IsX (.val (.agg (encS (withP (⟨t1, t2, t3, t4⟩ : At) (lo / 4096).toNat s ((hi / 4096).toNat - (lo / 4096).toNat))))) v H' ∧ HSat w (fun _ => False) H' w' := by
  obtain ⟨κ, hκ⟩ : ∃ κ : Kp, κ = kid := ⟨_, rfl⟩
  have hH : HSat w (fun _ => False) (heapOf [(nilId, .rd none 1 0 [])]) w := by
    subst hκ
    refine HSat.reads fun p hp => ?_
    simp only [List.mem_cons, List.not_mem_nil, or_false] at hp
    rcases hp with rfl
    · exact ⟨_, _, _, _, rfl, nil_holds w⟩
  refine (callsP (n := 30) FTok [] mixed [] Tryz.func56 rfl (by kernel_rfl) #[(SV.agg (encS s)).den, (SV.c (.v (.int .i64 lo))).den, (SV.c (.v (.int .i64 hi))).den, (SV.agg [.v (.int .i64 t1), .v (.bool t2), .v (.int .i64 t3), .v (.int .i64 t4)]).den] [(0, .agg (κ _ (encS s))), (1, .c (.v (.int .i64 lo))), (2, .c (.v (.int .i64 hi))), (3, .agg [.v (.int .i64 t1), .v (.bool t2), .v (.int .i64 t3), .v (.int .i64 t4)])] _ w rfl [.cell 8 90] rfl (by simp) (by subst hκ; simp [SV.den, C.den, kid]) hH (fun v H' => IsX (.val (.agg (κ _ (encS (withP (⟨t1, t2, t3, t4⟩ : At) (lo / 4096).toNat s ((hi / 4096).toNat - (lo / 4096).toNat)))))) v H') hκ ?_).mono ?_
  rotate_left
  · subst hκ; intro e w' h; exact h
  intro P' hP'
  cbv
  repeat' (first | refine And.intro ?_ ?_ | (intro _; cbv) | (refine tst_mk (fun h => ?_) (fun h => ?_) <;> cbv) | (refine LookX.nil ?_; cbv) | (refine LookX.auto hκ ?_; cbv))
  all_goals (try (show _ = true; subst hκ; delta kid; (have ho := encS_ok (s); generalize encS (s) = xs at ho ⊢; cases xs <;> exact ho)))
  all_goals (try (show Side _; (clear hH; subst hκ; delta kid at *; (try dsimp only at *)); exact ⟨by decide⟩))
  rename_i b4 b7 b8
  have hq0 := pro_q (a := lo) hside.1 (by omega)
  have hq1 := pro_q (a := hi) (by omega) hside.2.2
  obtain ⟨q0, e0⟩ : ∃ q, q = (lo / 4096).toNat := ⟨_, rfl⟩
  obtain ⟨q1, e1⟩ : ∃ q, q = (hi / 4096).toNat := ⟨_, rfl⟩
  have w0 : IntKind.i64.wrap (Int.tdiv lo 4096) = (q0 : Int) := by rw [e0]; exact hq0.1
  have w1 : IntKind.i64.wrap (Int.tdiv hi 4096) = (q1 : Int) := by rw [e1]; exact hq1.1
  have hq2 : q1 ≤ 512 := by omega
  have hq3 : q0 ≤ q1 := by omega
  refine loopP hP' FTok [] mixed [1, 2, 4, 7, 8] (σ := {k : Nat // q0 + k ≤ q1}) (fun q => [(9, .c (.v (.int .i64 (κ _ ((q0 + q.1 : Nat) : Int)))))]) (fun q => [(4, .blk b4 90 (κ _ (encS (withP (⟨t1, t2, t3, t4⟩ : At) q0 s q.1)))), (7, .blk b7 31 [.v (.int .i64 t1), .v (.bool t2), .v (.int .i64 t3), .v (.int .i64 (κ _ (offW t3 t4 q.1)))]), (8, .blk b8 90 (κ _ (encS noS)))]) (fun q => q1 - (q0 + q.1)) ⟨0, hq3⟩ [4, 7, 8] ?_ (by decide) ?_ hκ ?_
  · cbv
    all_goals (subst hκ; delta kid; repeat' (first | exact rfl | exact trivial | refine And.intro ?_ ?_ | exact congrArg (Value.int .i64) w0))
  · cbv
    all_goals (subst hκ; delta kid; repeat' (first | exact rfl | exact trivial | refine And.intro ?_ ?_ | exact congrArg (List.map C.den) encS_noS))
  rintro ⟨k, hk⟩
  cbv
  refine ⟨⟨by subst hκ; delta kid; decide⟩, ?_⟩
  refine tst_mk (fun h => ?_) (fun h => ?_)
  · have hx : q0 + k < q1 := by subst hκ; delta kid at h; exact pro_lt w1 h
    have hm : q0 + k < 512 := by omega
    have hn : (withP (⟨t1, t2, t3, t4⟩ : At) q0 s k).length = 512 := by rw [withP_len, ns]
    cbv
    repeat' (first | refine And.intro ?_ ?_ | (intro _; cbv) | (refine tst_mk (fun h => ?_) (fun h => ?_) <;> cbv) | (refine LookX.nil ?_; cbv) | (refine LookX.auto hκ ?_; cbv))
    all_goals (clear hH; subst hκ; delta kid at *; (try dsimp only at *))
    all_goals (try (exact ⟨page_ix hm⟩))
    all_goals (try (exact ⟨page_fit5 hn hm⟩))
    all_goals refine ⟨⟨⟨k + 1, (by omega)⟩, [4, 7, 8], (by show q1 - (q0 + (k + 1)) < q1 - (q0 + k); omega), by decide, ?_, ?_⟩⟩
    all_goals repeat' (first | exact rfl | exact trivial | refine And.intro ?_ ?_ | exact congrArg (Value.int .i64) (nat_succ (by omega)) | exact congrArg (fun v => List.map C.den [C.v (.int .i64 t1), .v (.bool t2), .v (.int .i64 t3), .v (.int .i64 v)]) (offW_y h) | exact congrArg (fun v => List.map C.den [C.v (.int .i64 t1), .v (.bool t2), .v (.int .i64 t3), .v (.int .i64 v)]) (offW_n h) | exact congrArg (List.map C.den) (page_put5 hn hm (pgW (⟨t1, t2, t3, t4⟩ : At) k)))
  · have hx : q0 + k = q1 := by subst hκ; delta kid at h; exact Nat.le_antisymm hk (pro_ge w1 h)
    have hn : (withP (⟨t1, t2, t3, t4⟩ : At) q0 s k).length = 512 := by rw [withP_len, ns]
    cbv
    repeat' (first | refine And.intro ?_ ?_ | (intro _; cbv) | (refine tst_mk (fun h => ?_) (fun h => ?_) <;> cbv) | (refine LookX.nil ?_; cbv) | (refine LookX.auto hκ ?_; cbv) | (refine LookN.mk' (x := κ _ (encS (withP (⟨t1, t2, t3, t4⟩ : At) q0 s k))) (by subst hκ; delta kid at *; exact whole_take hn) ?_; cbv) | (refine LookN.mk' (x := κ _ (encS (withP (⟨t1, t2, t3, t4⟩ : At) q0 s k))) (by subst hκ; delta kid at *; exact whole_put hn noS_len) ?_; cbv))
    all_goals (try (show _ = true; subst hκ; delta kid; (have ho := encS_ok (withP (⟨t1, t2, t3, t4⟩ : At) q0 s k); generalize encS (withP (⟨t1, t2, t3, t4⟩ : At) q0 s k) = xs at ho ⊢; cases xs <;> exact ho)))
    all_goals (try (show 2560 = _; subst hκ; delta kid; (have ho := encS_len2 (s := withP (⟨t1, t2, t3, t4⟩ : At) q0 s k) (hn); generalize encS (withP (⟨t1, t2, t3, t4⟩ : At) q0 s k) = xs at ho ⊢; cases xs <;> exact ho.symm)))
    all_goals (clear hH; subst hκ; delta kid at *; (try dsimp only at *))
    all_goals (try (exact ⟨by rw [encS_len, encS_len, hn, noS_len]; omega⟩))
    obtain rfl : k = q1 - q0 := by omega
    subst e0 e1
    exact IsX.val_ rfl
def e_rwith {κ : Kp} (hκ : κ = kid) : ESpec Tryz.prog := fnES [.space, .flat, .flat, .flat] b_rwith F_rwith hκ fun avs p r hF hp => by
  unfold F_rwith at hF
  split at hF
  case h_2 => cases hF
  rename_i s lo hi t1 t2 t3 t4
  simp only [kid, Option.some.injEq, Prod.mk.injEq] at hF
  obtain ⟨rfl, rfl⟩ := hF
  refine ⟨trivial, fun vs w hR => ?_⟩
  obtain ⟨vs0, rfl, ns, hR⟩ := hR
  obtain ⟨vs1, rfl, hR⟩ := hR
  obtain ⟨vs2, rfl, hR⟩ := hR
  obtain ⟨vs3, rfl, hR⟩ := hR
  have hR' : vs3 = [] := hR
  subst hR'
  exact k_rwith s lo hi t1 t2 t3 t4 hp ns w
end Go.Proofs.YtbcicjmepojlnaaGreat.Eng
/- The reference's Unmap, as the program's; no condition but those typed. -/
namespace Go.Proofs.YtbcicjmepojlnaaGreat.Eng
open Go Go.RowKit
set_option autoImplicit false
set_option linter.unusedSimpArgs false
set_option linter.unusedVariables false
section
variable {l : List Ar} {c : Cl}
theorem un_bad (hm : mayS l = true) (h : (rangeE c.a c.n != 0) = true) : unN l c = errA (rangeE c.a c.n) ∧ unL l c = l ∧ ((unN l c).er != 0) = true := by
  have he : unE l c = rangeE c.a c.n := by unfold unE; rw [hm]; rfl
  have e1 : unN l c = errA (rangeE c.a c.n) := by unfold unN; rw [he, if_pos h]
  exact ⟨e1, by unfold unL; rw [he, if_pos h], by rw [e1]; exact h⟩
theorem un_ok (hm : mayS l = true) (h : (rangeE c.a c.n != 0) = false) : unN l c = keptN (unS l c) 0 ∧ unL l c = keptL l (unS l c) ∧ listS (woP (rangeLo c.a c.n / 4096).toNat (ofL l) ((rangeHi c.a c.n / 4096).toNat - (rangeLo c.a c.n / 4096).toNat)) = unS l c := by
  have he : unE l c = rangeE c.a c.n := by unfold unE; rw [hm]; rfl
  refine ⟨by unfold unN; rw [he, if_neg (by rw [h]; simp)], by unfold unL; rw [he, if_neg (by rw [h]; simp)], ?_⟩
  exact cut_pages (mayS_rt hm).1 (range_ok (bne_no h)).1
theorem un_same (hm : mayS l = true) (h : (rangeE c.a c.n != 0) = false) (hn : decide ((24 : Int) < ((listS (woP (rangeLo c.a c.n / 4096).toNat (ofL l) ((rangeHi c.a c.n / 4096).toNat - (rangeLo c.a c.n / 4096).toNat))).length : Int)) = true) : unN l c = errA 9 ∧ ((unN l c).er != 0) = true := by
  obtain ⟨g1, _, g3⟩ := un_ok hm h
  rw [g3] at hn
  rw [(kept_no (was := l) hn).2] at g1
  exact ⟨g1, by rw [g1]; rfl⟩
theorem un_new (hm : mayS l = true) (h : (rangeE c.a c.n != 0) = false) (hn : decide ((24 : Int) < ((listS (woP (rangeLo c.a c.n / 4096).toNat (ofL l) ((rangeHi c.a c.n / 4096).toNat - (rangeLo c.a c.n / 4096).toNat))).length : Int)) = false) : unN l c = okA 0 ∧ ((unN l c).er != 0) = false ∧ listS (woP (rangeLo c.a c.n / 4096).toNat (ofL l) ((rangeHi c.a c.n / 4096).toNat - (rangeLo c.a c.n / 4096).toNat)) = unL l c := by
  obtain ⟨g1, g2, g3⟩ := un_ok hm h
  rw [g3] at hn
  rw [(kept_yes (was := l) hn).2] at g1
  rw [(kept_yes (v := 0) (was := l) hn).1] at g2
  exact ⟨g1, by rw [g1]; rfl, by rw [g3, g2]⟩
theorem un_rng (h : (rangeE c.a c.n != 0) = false) : 0 ≤ rangeLo c.a c.n ∧ rangeLo c.a c.n ≤ rangeHi c.a c.n ∧ rangeHi c.a c.n ≤ 2097152 := by
  obtain ⟨h1, h2, h3, _, _⟩ := (range_ok (bne_no h)).1
  omega
end
theorem keptN_er {now l : List Ar} {v : Int} (h : ((keptN now v).er != 0) = true) : keptL l now = l := by
  unfold keptN at h
  unfold keptL
  split at h
  · rename_i h2
    rw [if_pos h2]
  · cases h
theorem un_self {l : List Ar} {c : Cl} (h : ((unN l c).er != 0) = true) : unL l c = l := by
  unfold unN at h
  unfold unL
  split at h
  · rename_i h2
    rw [if_pos h2]
  · rename_i h2
    rw [if_neg h2]
    exact keptN_er h
theorem map_self {l : List Ar} {c : Cl} (h : ((mapN l c).er != 0) = true) : mapL l c = l := by
  unfold mapN at h
  unfold mapL
  split at h
  · rename_i h2
    rw [if_pos h2]
  · rename_i h2
    rw [if_neg h2]
    exact keptN_er h
end Go.Proofs.YtbcicjmepojlnaaGreat.Eng
/- Contracts of functions (printed by genx.py of this work): what each hands back; condition: as its 'hside' says. -/
namespace Go.Proofs.YtbcicjmepojlnaaGreat.Eng
open Go Go.RowKit
set_option linter.unusedVariables false
set_option linter.unusedSimpArgs false
theorem b_runmap : Bodied Tryz.prog 20 := bodied Tryz.func20 rfl (by decide)
def F_runmap : FunX := fun κ avs => match avs with
  | [.lst l xl, .val (.agg [.v (.int .i64 c1), .v (.int .i64 c2), .v (.int .i64 c3), .v (.int .i64 c4), .v (.int .i64 c5), .v (.int .i64 c6), .v (.int .i64 c7), .v (.int .i64 c8), .v (.int .i64 c9)])] => some (κ _ (mayS l = true ∧ In64 (⟨c1, c2, c3, c4, c5, c6, c7, c8, c9⟩ : Cl).a), (.alt ((κ _ ((unN l (⟨c1, c2, c3, c4, c5, c6, c7, c8, c9⟩ : Cl)).er != 0))) (xl) (fun x => .tup [.c x, .agg [.v (.int .i64 (κ _ ((unN l (⟨c1, c2, c3, c4, c5, c6, c7, c8, c9⟩ : Cl)).er))), .v (.int .i64 (κ _ ((unN l (⟨c1, c2, c3, c4, c5, c6, c7, c8, c9⟩ : Cl)).v))), .v (.int .i64 (κ _ ((unN l (⟨c1, c2, c3, c4, c5, c6, c7, c8, c9⟩ : Cl)).t.p))), .v (.bool (κ _ ((unN l (⟨c1, c2, c3, c4, c5, c6, c7, c8, c9⟩ : Cl)).t.sh))), .v (.int .i64 (κ _ ((unN l (⟨c1, c2, c3, c4, c5, c6, c7, c8, c9⟩ : Cl)).t.b))), .v (.int .i64 (κ _ ((unN l (⟨c1, c2, c3, c4, c5, c6, c7, c8, c9⟩ : Cl)).t.o)))]]) ((κ _ (unL l (⟨c1, c2, c3, c4, c5, c6, c7, c8, c9⟩ : Cl)))) (fun x => .tup [.c x, .agg [.v (.int .i64 (κ _ ((unN l (⟨c1, c2, c3, c4, c5, c6, c7, c8, c9⟩ : Cl)).er))), .v (.int .i64 (κ _ ((unN l (⟨c1, c2, c3, c4, c5, c6, c7, c8, c9⟩ : Cl)).v))), .v (.int .i64 (κ _ ((unN l (⟨c1, c2, c3, c4, c5, c6, c7, c8, c9⟩ : Cl)).t.p))), .v (.bool (κ _ ((unN l (⟨c1, c2, c3, c4, c5, c6, c7, c8, c9⟩ : Cl)).t.sh))), .v (.int .i64 (κ _ ((unN l (⟨c1, c2, c3, c4, c5, c6, c7, c8, c9⟩ : Cl)).t.b))), .v (.int .i64 (κ _ ((unN l (⟨c1, c2, c3, c4, c5, c6, c7, c8, c9⟩ : Cl)).t.o)))]])))
  | _ => none
set_option maxRecDepth 100000 in
set_option maxHeartbeats 4000000 in
theorem k_runmap (l : List Ar) (c1 : Int) (c2 : Int) (c3 : Int) (c4 : Int) (c5 : Int) (c6 : Int) (c7 : Int) (c8 : Int) (c9 : Int) (Al : Option Addr) (cl : Nat) (hside : mayS l = true ∧ In64 (⟨c1, c2, c3, c4, c5, c6, c7, c8, c9⟩ : Cl).a) (w : World) (hl : (Ent.rd Al 6 l.length (encL l)).holds w) :
    Calls Tryz.prog 20 #[.slice Al l.length cl, (SV.agg [.v (.int .i64 c1), .v (.int .i64 c2), .v (.int .i64 c3), .v (.int .i64 c4), .v (.int .i64 c5), .v (.int .i64 c6), .v (.int .i64 c7), .v (.int .i64 c8), .v (.int .i64 c9)]).den] w fun e w' => ∃ v H', e = .returned v.den ∧ IsX (.alt (((unN l (⟨c1, c2, c3, c4, c5, c6, c7, c8, c9⟩ : Cl)).er != 0)) (.sl 200000 Al l.length cl) (fun x => .tup [.c x, .agg [.v (.int .i64 ((unN l (⟨c1, c2, c3, c4, c5, c6, c7, c8, c9⟩ : Cl)).er)), .v (.int .i64 ((unN l (⟨c1, c2, c3, c4, c5, c6, c7, c8, c9⟩ : Cl)).v)), .v (.int .i64 ((unN l (⟨c1, c2, c3, c4, c5, c6, c7, c8, c9⟩ : Cl)).t.p)), .v (.bool ((unN l (⟨c1, c2, c3, c4, c5, c6, c7, c8, c9⟩ : Cl)).t.sh)), .v (.int .i64 ((unN l (⟨c1, c2, c3, c4, c5, c6, c7, c8, c9⟩ : Cl)).t.b)), .v (.int .i64 ((unN l (⟨c1, c2, c3, c4, c5, c6, c7, c8, c9⟩ : Cl)).t.o))]]) ((unL l (⟨c1, c2, c3, c4, c5, c6, c7, c8, c9⟩ : Cl))) (fun x => .tup [.c x, .agg [.v (.int .i64 ((unN l (⟨c1, c2, c3, c4, c5, c6, c7, c8, c9⟩ : Cl)).er)), .v (.int .i64 ((unN l (⟨c1, c2, c3, c4, c5, c6, c7, c8, c9⟩ : Cl)).v)), .v (.int .i64 ((unN l (⟨c1, c2, c3, c4, c5, c6, c7, c8, c9⟩ : Cl)).t.p)), .v (.bool ((unN l (⟨c1, c2, c3, c4, c5, c6, c7, c8, c9⟩ : Cl)).t.sh)), .v (.int .i64 ((unN l (⟨c1, c2, c3, c4, c5, c6, c7, c8, c9⟩ : Cl)).t.b)), .v (.int .i64 ((unN l (⟨c1, c2, c3, c4, c5, c6, c7, c8, c9⟩ : Cl)).t.o))]])) v H' ∧ HSat w (fun _ => False) H' w' := by
  obtain ⟨κ, hκ⟩ : ∃ κ : Kp, κ = kid := ⟨_, rfl⟩
  have hH : HSat w (fun _ => False) (heapOf [(nilId, .rd none 1 0 []), (200000, .rd Al 6 (κ _ l.length) (κ _ (encL l)))]) w := by
    subst hκ
    refine HSat.reads fun p hp => ?_
    simp only [List.mem_cons, List.not_mem_nil, or_false] at hp
    rcases hp with rfl | rfl
    · exact ⟨_, _, _, _, rfl, nil_holds w⟩
    · exact ⟨_, _, _, _, rfl, hl⟩
  refine (callsP (n := 32) FTok [e_rrange hκ, e_of hκ, e_rwithout hκ, e_rkept hκ] mixed [] Tryz.func20 rfl (by kernel_rfl) #[.slice Al l.length cl, (SV.agg [.v (.int .i64 c1), .v (.int .i64 c2), .v (.int .i64 c3), .v (.int .i64 c4), .v (.int .i64 c5), .v (.int .i64 c6), .v (.int .i64 c7), .v (.int .i64 c8), .v (.int .i64 c9)]).den] [(0, .c (.sl 200000 Al (κ _ l.length) cl)), (1, .agg [.v (.int .i64 c1), .v (.int .i64 c2), .v (.int .i64 c3), .v (.int .i64 c4), .v (.int .i64 c5), .v (.int .i64 c6), .v (.int .i64 c7), .v (.int .i64 c8), .v (.int .i64 c9)])] _ w rfl [.tmp 4, .cell 5 33] rfl (by simp) (by subst hκ; simp [SV.den, C.den, kid]) hH (fun v H' => IsX (.alt ((κ _ ((unN l (⟨c1, c2, c3, c4, c5, c6, c7, c8, c9⟩ : Cl)).er != 0))) (.sl 200000 Al (κ _ l.length) cl) (fun x => .tup [.c x, .agg [.v (.int .i64 (κ _ ((unN l (⟨c1, c2, c3, c4, c5, c6, c7, c8, c9⟩ : Cl)).er))), .v (.int .i64 (κ _ ((unN l (⟨c1, c2, c3, c4, c5, c6, c7, c8, c9⟩ : Cl)).v))), .v (.int .i64 (κ _ ((unN l (⟨c1, c2, c3, c4, c5, c6, c7, c8, c9⟩ : Cl)).t.p))), .v (.bool (κ _ ((unN l (⟨c1, c2, c3, c4, c5, c6, c7, c8, c9⟩ : Cl)).t.sh))), .v (.int .i64 (κ _ ((unN l (⟨c1, c2, c3, c4, c5, c6, c7, c8, c9⟩ : Cl)).t.b))), .v (.int .i64 (κ _ ((unN l (⟨c1, c2, c3, c4, c5, c6, c7, c8, c9⟩ : Cl)).t.o)))]]) ((κ _ (unL l (⟨c1, c2, c3, c4, c5, c6, c7, c8, c9⟩ : Cl)))) (fun x => .tup [.c x, .agg [.v (.int .i64 (κ _ ((unN l (⟨c1, c2, c3, c4, c5, c6, c7, c8, c9⟩ : Cl)).er))), .v (.int .i64 (κ _ ((unN l (⟨c1, c2, c3, c4, c5, c6, c7, c8, c9⟩ : Cl)).v))), .v (.int .i64 (κ _ ((unN l (⟨c1, c2, c3, c4, c5, c6, c7, c8, c9⟩ : Cl)).t.p))), .v (.bool (κ _ ((unN l (⟨c1, c2, c3, c4, c5, c6, c7, c8, c9⟩ : Cl)).t.sh))), .v (.int .i64 (κ _ ((unN l (⟨c1, c2, c3, c4, c5, c6, c7, c8, c9⟩ : Cl)).t.b))), .v (.int .i64 (κ _ ((unN l (⟨c1, c2, c3, c4, c5, c6, c7, c8, c9⟩ : Cl)).t.o)))]])) v H') hκ ?_).mono ?_
  rotate_left
  · subst hκ; intro e w' h; exact h
  intro P' hP'
  cbv
  have hrt := mayS_rt hside.1
  repeat' (first | refine And.intro ?_ ?_ | (intro _; cbv) | (refine tst_mk (fun h => ?_) (fun h => ?_) <;> cbv) | (refine LookX.nil ?_; cbv) | (refine LookX.auto hκ ?_; cbv))
  all_goals (try (show Side _; refine ⟨?_⟩; subst hκ; delta kid at *; first | exact rfl | exact trivial | exact ⟨rfl, rfl, .inl rfl⟩ | exact hside.2 | exact ⟨hrt.1.1, by omega⟩ | exact ofL_len l | exact (woP_len _ _ _).trans (ofL_len l) | exact un_rng (c := (⟨c1, c2, c3, c4, c5, c6, c7, c8, c9⟩ : Cl)) (by with_reducible assumption) | ((try dsimp only at *); (try simp only [setTo_len, noS_len, List.length_append, List.length_cons, List.length_nil, List.length_map, and_self, true_or, or_true, eq_self, true_and, and_true, Nat.zero_add, Nat.add_zero]); (first | done | omega); done)))
  all_goals (clear hH; subst hκ; delta kid at *; (try dsimp only at *))
  · have hb := un_bad (c := (⟨c1, c2, c3, c4, c5, c6, c7, c8, c9⟩ : Cl)) hside.1 (by with_reducible assumption)
    refine IsX.sameM rfl (fun x => ?_) hb.2.2
    simp only [hb.1, errA, noAt]
  · have hb := un_same (c := (⟨c1, c2, c3, c4, c5, c6, c7, c8, c9⟩ : Cl)) hside.1 (by with_reducible assumption) (by with_reducible assumption)
    refine IsX.sameM rfl (fun x => ?_) hb.2
    simp only [hb.1, errA, noAt]
  · have hb := un_new (c := (⟨c1, c2, c3, c4, c5, c6, c7, c8, c9⟩ : Cl)) hside.1 (by with_reducible assumption) (by with_reducible assumption)
    refine IsX.newM rfl rfl (fun x => ?_) hb.2.1 hb.2.2
    simp only [hb.1, okA, noAt]
def e_runmap {κ : Kp} (hκ : κ = kid) : ESpec Tryz.prog := fnES [.list, .flat] b_runmap F_runmap hκ fun avs p r hF hp => by
  unfold F_runmap at hF
  split at hF
  case h_2 => cases hF
  rename_i l xl c1 c2 c3 c4 c5 c6 c7 c8 c9
  simp only [kid, Option.some.injEq, Prod.mk.injEq] at hF
  obtain ⟨rfl, rfl⟩ := hF
  refine ⟨fun x y h => by simp [SV.den, SV.den0, h], fun vs w hR => ?_⟩
  obtain ⟨il, Al, cl, vs0, rfl, rfl, hl, hR⟩ := hR
  obtain ⟨vs1, rfl, hR⟩ := hR
  have hR' : vs1 = [] := hR
  subst hR'
  exact (k_runmap l c1 c2 c3 c4 c5 c6 c7 c8 c9 Al cl hp w hl).mono fun e w' ⟨v, H', h1, h2, h3⟩ => ⟨v, H', h1, h2.swap rfl, h3⟩
end Go.Proofs.YtbcicjmepojlnaaGreat.Eng
/- Flags; the reference's Place, as the program's; no condition but those typed. -/
namespace Go.Proofs.YtbcicjmepojlnaaGreat.Eng
open Go Go.RowKit
set_option autoImplicit false
set_option linter.unusedSimpArgs false
set_option linter.unusedVariables false
set_option linter.unusedSectionVars false
theorem flag_all : ∀ f : Fin 256, (Int.tmod (f.val : Int) 2 == 1) = bitB f.val 1 ∧ (Int.tmod (IntKind.i64.wrap (Int.tdiv (f.val : Int) 2)) 2 == 1) = bitB f.val 2 ∧ (Int.tmod (IntKind.i64.wrap (Int.tdiv (f.val : Int) 4)) 2 == 1) = bitB f.val 4 ∧ (Int.tmod (IntKind.i64.wrap (Int.tdiv (f.val : Int) 8)) 2 == 0) = !bitB f.val 8 := by decide +kernel
theorem flag_is {f : Int} (h : 0 ≤ f ∧ f ≤ 255) : (Int.tmod f 2 == 1) = bitB f 1 ∧ (Int.tmod (IntKind.i64.wrap (Int.tdiv f 2)) 2 == 1) = bitB f 2 ∧ (Int.tmod (IntKind.i64.wrap (Int.tdiv f 4)) 2 == 1) = bitB f 4 ∧ (Int.tmod (IntKind.i64.wrap (Int.tdiv f 8)) 2 == 0) = !bitB f 8 := by
  have := flag_all ⟨f.toNat, by omega⟩
  have e : ((f.toNat : Nat) : Int) = f := by omega
  simp only [e] at this
  exact this
theorem pick_is {l : List Ar} {n f : Int} : pickB l n f = true → chooseL l 65536 2097152 n (!bitB f 8) = pickV l n f := fun h => by
  unfold pickB at h
  unfold pickV chooseL
  cases hb : bitB f 8 with
  | true =>
    rw [hb, if_pos rfl] at h
    rw [if_neg (by simp), if_pos h, if_pos rfl]
  | false =>
    rw [hb, if_neg (by simp)] at h
    rw [if_pos (by decide), if_pos h, if_neg (by simp)]
theorem IsX.ii {a b a' b' : Int} {H' : Heap} (h : a' = a ∧ b' = b) : IsX (.val (.tup [.c (.v (.int .i64 a)), .c (.v (.int .i64 b))])) (.tup [.c (.v (.int .i64 a')), .c (.v (.int .i64 b'))]) H' := by
  obtain ⟨rfl, rfl⟩ := h
  exact IsX.val_ rfl
theorem pick_dec {l : List Ar} (hl : Rt l) {n f : Int} (h64 : In64 n) : pickB l n f = decide (0 ≤ chooseL l 65536 2097152 n (!bitB f 8)) := by
  obtain ⟨k1, k2, _⟩ := chooses hl (lo := 65536) (hi := 2097152) h64
  unfold pickB
  cases hb : bitB f 8 with
  | true => rw [if_pos rfl]; exact k1
  | false => rw [if_neg (by simp)]; exact k2
section
variable {l : List Ar} {a n f : Int} (hm : mayS l = true) (h64 : In64 n) (hf : 0 ≤ f ∧ f ≤ 255)
include hm hf
theorem pl1 (t1 : (Int.tmod f 2 == 1) = true) (h : (rangeE a n != 0) = true) : 0 = placeV l a n f ∧ rangeE a n = placeE l a n f := by
  rw [(flag_is hf).1] at t1
  have e : fixE l a n f = rangeE a n := by unfold fixE; rw [if_pos h]
  unfold placeV placeE fixV
  rw [hm, t1, e, h]
  exact ⟨rfl, rfl⟩
theorem fix_go (h : (rangeE a n != 0) = false) : fixE l a n f = if (bitB f 2 && someP (ofL l) (rangeLo a n) (rangeHi a n)) = true then 6 else 0 := by
  unfold fixE
  rw [if_neg (by rw [h]; simp), some_within (mayS_rt hm).1 (range_ok (bne_no h)).1]
theorem pl2 (t1 : (Int.tmod f 2 == 1) = true) (h : (rangeE a n != 0) = false) (t2 : (Int.tmod (IntKind.i64.wrap (Int.tdiv f 2)) 2 == 1) = true) (h2 : someP (ofL l) (rangeLo a n) (rangeHi a n) = true) : 0 = placeV l a n f ∧ 6 = placeE l a n f := by
  rw [(flag_is hf).1] at t1
  rw [(flag_is hf).2.1] at t2
  have e := fix_go hm hf (l := l) h
  rw [t2, h2] at e
  unfold placeV placeE fixV
  rw [hm, t1, e]
  exact ⟨rfl, rfl⟩
theorem pl3 (t1 : (Int.tmod f 2 == 1) = true) (h : (rangeE a n != 0) = false) (h2 : (Int.tmod (IntKind.i64.wrap (Int.tdiv f 2)) 2 == 1) = false ∨ someP (ofL l) (rangeLo a n) (rangeHi a n) = false) : a = placeV l a n f ∧ 0 = placeE l a n f := by
  rw [(flag_is hf).1] at t1
  rw [(flag_is hf).2.1] at h2
  have e := fix_go hm hf (l := l) h
  rw [if_neg (by rcases h2 with h2 | h2 <;> rw [h2] <;> simp)] at e
  unfold placeV placeE fixV
  rw [hm, t1, e]
  exact ⟨rfl, rfl⟩
theorem pl4 (t1 : (Int.tmod f 2 == 1) = false) (h : (a != 0) = true) (h2 : fitsL l a n = true) : a = placeV l a n f ∧ 0 = placeE l a n f := by
  rw [(flag_is hf).1] at t1
  unfold placeV placeE
  rw [hm, t1, h, h2]
  exact ⟨rfl, rfl⟩
include h64
theorem pl5 (t1 : (Int.tmod f 2 == 1) = false) (h : (a != 0) = false ∨ fitsL l a n = false) (h2 : decide (chooseL l 65536 2097152 n (Int.tmod (IntKind.i64.wrap (Int.tdiv f 8)) 2 == 0) < 0) = true) : 0 = placeV l a n f ∧ 5 = placeE l a n f := by
  rw [(flag_is hf).1] at t1
  rw [(flag_is hf).2.2.2] at h2
  have hp : pickB l n f = false := by
    rw [pick_dec (mayS_rt hm).1 h64, decide_eq_false_iff_not]
    have := of_decide_eq_true h2
    omega
  have hc : (a != 0 && fitsL l a n) = false := by rcases h with h | h <;> rw [h] <;> simp
  unfold placeV placeE
  rw [hm, t1, hc, hp]
  exact ⟨rfl, rfl⟩
theorem pl6 (t1 : (Int.tmod f 2 == 1) = false) (h : (a != 0) = false ∨ fitsL l a n = false) (h2 : decide (chooseL l 65536 2097152 n (Int.tmod (IntKind.i64.wrap (Int.tdiv f 8)) 2 == 0) < 0) = false) : chooseL l 65536 2097152 n (Int.tmod (IntKind.i64.wrap (Int.tdiv f 8)) 2 == 0) = placeV l a n f ∧ 0 = placeE l a n f := by
  rw [(flag_is hf).1] at t1
  rw [(flag_is hf).2.2.2] at h2 ⊢
  have hp : pickB l n f = true := by
    rw [pick_dec (mayS_rt hm).1 h64, decide_eq_true_eq]
    have := of_decide_eq_false h2
    omega
  have hc : (a != 0 && fitsL l a n) = false := by rcases h with h | h <;> rw [h] <;> simp
  unfold placeV placeE
  rw [hm, t1, hc, hp, pick_is hp]
  exact ⟨rfl, rfl⟩
end
end Go.Proofs.YtbcicjmepojlnaaGreat.Eng
/- Contracts of functions (printed by genx.py of this work): what each hands back; condition: as its 'hside' says. -/
namespace Go.Proofs.YtbcicjmepojlnaaGreat.Eng
open Go Go.RowKit
set_option linter.unusedVariables false
set_option linter.unusedSimpArgs false
theorem b_rplace : Bodied Tryz.prog 54 := bodied Tryz.func54 rfl (by decide)
def F_rplace : FunX := fun κ avs => match avs with
  | [.lst l xl, .val (.c (.v (.int .i64 a))), .val (.c (.v (.int .i64 n))), .val (.c (.v (.int .i64 f)))] => some (κ _ (mayS l = true ∧ In64 a ∧ In64 n ∧ 0 ≤ f ∧ f ≤ 255), (.val (.tup [.c (.v (.int .i64 (κ _ (placeV l a n f)))), .c (.v (.int .i64 (κ _ (placeE l a n f))))])))
  | _ => none
set_option maxRecDepth 100000 in
set_option maxHeartbeats 4000000 in
theorem k_rplace (l : List Ar) (a : Int) (n : Int) (f : Int) (Al : Option Addr) (cl : Nat) (hside : mayS l = true ∧ In64 a ∧ In64 n ∧ 0 ≤ f ∧ f ≤ 255) (w : World) (hl : (Ent.rd Al 6 l.length (encL l)).holds w) :
    Calls Tryz.prog 54 #[.slice Al l.length cl, (SV.c (.v (.int .i64 a))).den, (SV.c (.v (.int .i64 n))).den, (SV.c (.v (.int .i64 f))).den] w fun e w' => ∃ v H', e = .returned v.den ∧ IsX (.val (.tup [.c (.v (.int .i64 (placeV l a n f))), .c (.v (.int .i64 (placeE l a n f)))])) v H' ∧ HSat w (fun _ => False) H' w' := by
  obtain ⟨κ, hκ⟩ : ∃ κ : Kp, κ = kid := ⟨_, rfl⟩
  have hH : HSat w (fun _ => False) (heapOf [(nilId, .rd none 1 0 []), (200000, .rd Al 6 (κ _ l.length) (κ _ (encL l)))]) w := by
    subst hκ
    refine HSat.reads fun p hp => ?_
    simp only [List.mem_cons, List.not_mem_nil, or_false] at hp
    rcases hp with rfl | rfl
    · exact ⟨_, _, _, _, rfl, nil_holds w⟩
    · exact ⟨_, _, _, _, rfl, hl⟩
  refine (callsP (n := 58) FTok [e_rrange hκ, e_of hκ, e_rsomeP hκ, e_rfits hκ, e_rchoose hκ] mixed [] Tryz.func54 rfl (by kernel_rfl) #[.slice Al l.length cl, (SV.c (.v (.int .i64 a))).den, (SV.c (.v (.int .i64 n))).den, (SV.c (.v (.int .i64 f))).den] [(0, .c (.sl 200000 Al (κ _ l.length) cl)), (1, .c (.v (.int .i64 a))), (2, .c (.v (.int .i64 n))), (3, .c (.v (.int .i64 f)))] _ w rfl [.tmp 8, .tmp 9] rfl (by simp) (by subst hκ; simp [SV.den, C.den, kid]) hH (fun v H' => IsX (.val (.tup [.c (.v (.int .i64 (κ _ (placeV l a n f)))), .c (.v (.int .i64 (κ _ (placeE l a n f))))])) v H') hκ ?_).mono ?_
  rotate_left
  · subst hκ; intro e w' h; exact h
  intro P' hP'
  cbv
  have hrt := mayS_rt hside.1
  repeat' (first | refine And.intro ?_ ?_ | (intro _; cbv) | (refine tst_mk (fun h => ?_) (fun h => ?_) <;> cbv) | (refine LookX.nil ?_; cbv) | (refine LookX.auto hκ ?_; cbv))
  all_goals (try (show Side _; refine ⟨?_⟩; subst hκ; delta kid at *; first | exact rfl | exact trivial | exact ⟨rfl, rfl, .inl rfl⟩ | exact hside.2.1 | exact ⟨hrt.1.1, by omega⟩ | exact ⟨hrt.1, (by omega), hside.2.1, hside.2.2.1⟩ | exact ⟨hrt.1, (by omega), hside.2.2.1⟩ | exact ofL_len l | ((try dsimp only at *); (try simp only [setTo_len, noS_len, List.length_append, List.length_cons, List.length_nil, List.length_map, and_self, true_or, or_true, eq_self, true_and, and_true, Nat.zero_add, Nat.add_zero]); (first | done | omega); done)))
  all_goals (clear hH; subst hκ; delta kid at *; (try dsimp only at *))
  all_goals (show IsX _ _ _)
  · exact IsX.ii (pl1 hside.1 hside.2.2.2 (by with_reducible assumption) (by with_reducible assumption))
  · exact IsX.ii (pl2 hside.1 hside.2.2.2 (by with_reducible assumption) (by with_reducible assumption) (by with_reducible assumption) (by with_reducible assumption))
  · exact IsX.ii (pl3 hside.1 hside.2.2.2 (by with_reducible assumption) (by with_reducible assumption) (.inr (by with_reducible assumption)))
  · exact IsX.ii (pl3 hside.1 hside.2.2.2 (by with_reducible assumption) (by with_reducible assumption) (.inl (by with_reducible assumption)))
  · exact IsX.ii (pl4 hside.1 hside.2.2.2 (by with_reducible assumption) (by with_reducible assumption) (by with_reducible assumption))
  · exact IsX.ii (pl5 hside.1 hside.2.2.1 hside.2.2.2 (by with_reducible assumption) (.inr (by with_reducible assumption)) (by with_reducible assumption))
  · exact IsX.ii (pl6 hside.1 hside.2.2.1 hside.2.2.2 (by with_reducible assumption) (.inr (by with_reducible assumption)) (by with_reducible assumption))
  · exact IsX.ii (pl5 hside.1 hside.2.2.1 hside.2.2.2 (by with_reducible assumption) (.inl (by with_reducible assumption)) (by with_reducible assumption))
  · exact IsX.ii (pl6 hside.1 hside.2.2.1 hside.2.2.2 (by with_reducible assumption) (.inl (by with_reducible assumption)) (by with_reducible assumption))
def e_rplace {κ : Kp} (hκ : κ = kid) : ESpec Tryz.prog := fnES [.list, .flat, .flat, .flat] b_rplace F_rplace hκ fun avs p r hF hp => by
  unfold F_rplace at hF
  split at hF
  case h_2 => cases hF
  rename_i l xl a n f
  simp only [kid, Option.some.injEq, Prod.mk.injEq] at hF
  obtain ⟨rfl, rfl⟩ := hF
  refine ⟨trivial, fun vs w hR => ?_⟩
  obtain ⟨il, Al, cl, vs0, rfl, rfl, hl, hR⟩ := hR
  obtain ⟨vs1, rfl, hR⟩ := hR
  obtain ⟨vs2, rfl, hR⟩ := hR
  obtain ⟨vs3, rfl, hR⟩ := hR
  have hR' : vs3 = [] := hR
  subst hR'
  exact k_rplace l a n f Al cl hp w hl
end Go.Proofs.YtbcicjmepojlnaaGreat.Eng
