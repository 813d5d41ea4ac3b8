/- Texts of this work, laid together: symbolic execution over the model, contracts of the program's functions, what they come to; conditions: as each says. -/
import Derived.Test.YtbcicjmepojlnaaPkKAL
import Derived.Test.YtbcicjmepojlnaaPkKBA
/- mapping: the pure forms; no condition but those typed. -/
namespace Go.Proofs.Ytbcicjmepojlnaa.Eng
open Go Go.RowKit
set_option autoImplicit false
set_option linter.unusedSimpArgs false
set_option linter.unusedVariables false
def bitB (f m : Int) : Bool := bits .and .i64 f m != 0
def lenW (l : List Ar) (lo hi : Int) : Bool := decide ((0 : Int) < ((within2L l lo hi).length : Int))
def fixE (l : List Ar) (a n f : Int) : Int := if (rangeE a n != 0) = true then rangeE a n else if (bitB f 2 && lenW l (rangeLo a n) (rangeHi a n)) = true then 6 else 0
def fixV (l : List Ar) (a n f : Int) : Int := if (fixE l a n f != 0) = true then 0 else a
def pickB (l : List Ar) (n f : Int) : Bool := if bitB f 8 = true then (lowN l 65536 2097152 n).2 else (highN l 65536 2097152 n).2
def pickV (l : List Ar) (n f : Int) : Int := if bitB f 8 = true then (lowN l 65536 2097152 n).1 else (highN l 65536 2097152 n).1
def placeE (l : List Ar) (a n f : Int) : Int := if (!mayS l) = true then 1 else if bitB f 1 = true then fixE l a n f else if (a != 0 && fitsL l a n) = true then 0 else if pickB l n f = true then 0 else 5
def placeV (l : List Ar) (a n f : Int) : Int := if (!mayS l) = true then 0 else if bitB f 1 = true then fixV l a n f else if (a != 0 && fitsL l a n) = true then a else if pickB l n f = true then pickV l n f else 0
def askE (c : Cl) : Int := if (sizeE c.n != 0) = true then sizeE c.n else if (protE c.p != 0) = true then protE c.p else if (flagsE c.f 15 != 0) = true then flagsE c.f 15 else if (bits .and .i64 c.f 3 == 2) = true then 1 else backE c.b c.o (sizeV c.n)
def mapE (l : List Ar) (c : Cl) : Int := if (!mayS l) = true then 1 else if (askE c != 0) = true then askE c else placeE l c.a (sizeV c.n) c.f
def mapV (l : List Ar) (c : Cl) : Int := placeV l c.a (sizeV c.n) c.f
def mapA (l : List Ar) (c : Cl) : Ar := ⟨mapV l c, w64 (mapV l c + sizeV c.n), c.p, bitB c.f 4, c.b, c.o⟩
def mapL (l : List Ar) (c : Cl) : List Ar := if (mapE l c != 0) = true then l else keptL l (putL l (mapA l c))
def mapN (l : List Ar) (c : Cl) : An := if (mapE l c != 0) = true then errA (mapE l c) else keptN (putL l (mapA l c)) (mapV l c)
end Go.Proofs.Ytbcicjmepojlnaa.Eng
/- Contracts of functions (printed by genx.py of this work): what each hands back; condition: as its 'hside' says. -/
namespace Go.Proofs.Ytbcicjmepojlnaa.Eng
open Go Go.RowKit
set_option linter.unusedVariables false
set_option linter.unusedSimpArgs false
theorem b_fixed : Bodied Try.prog 132 := bodied Try.func132 rfl (by decide)
def F_fixed : FunX := fun κ avs => match avs with
  | [.lst l xl, .val (.c (.v (.int .i64 a))), .val (.c (.v (.int .i64 n))), .val (.c (.v (.int .i64 f)))] => some (κ _ (l.length ≤ 300000), (.val (.tup [.c (.v (.int .i64 (κ _ (fixV l a n f)))), .c (.v (.int .i64 (κ _ (fixE l a n f))))])))
  | _ => none
set_option maxRecDepth 100000 in
set_option maxHeartbeats 4000000 in
theorem k_fixed (l : List Ar) (a : Int) (n : Int) (f : Int) (Al : Option Addr) (cl : Nat) (hside : l.length ≤ 300000) (w : World) (hl : (Ent.rd Al 6 l.length (encL l)).holds w) :
    Calls Try.prog 132 #[.slice Al l.length cl, (SV.c (.v (.int .i64 a))).den, (SV.c (.v (.int .i64 n))).den, (SV.c (.v (.int .i64 f))).den] w fun e w' => ∃ v H', e = .returned v.den ∧ IsX (.val (.tup [.c (.v (.int .i64 (fixV l a n f))), .c (.v (.int .i64 (fixE l a n f)))])) v H' ∧ HSat w (fun _ => False) H' w' := by
  obtain ⟨κ, hκ⟩ : ∃ κ : Kp, κ = kid := ⟨_, rfl⟩
  have hH : HSat w (fun _ => False) (heapOf [(nilId, .rd none 1 0 []), (200000, .rd Al 6 (κ _ l.length) (κ _ (encL l)))]) w := by
    subst hκ
    refine HSat.reads fun p hp => ?_
    simp only [List.mem_cons, List.not_mem_nil, or_false] at hp
    rcases hp with rfl | rfl
    · exact ⟨_, _, _, _, rfl, nil_holds w⟩
    · exact ⟨_, _, _, _, rfl, hl⟩
  refine (callsP (n := 37) FTok [e_range hκ, e_within2 hκ] mixed [] Try.func132 rfl (by kernel_rfl) #[.slice Al l.length cl, (SV.c (.v (.int .i64 a))).den, (SV.c (.v (.int .i64 n))).den, (SV.c (.v (.int .i64 f))).den] [(0, .c (.sl 200000 Al (κ _ l.length) cl)), (1, .c (.v (.int .i64 a))), (2, .c (.v (.int .i64 n))), (3, .c (.v (.int .i64 f)))] _ w rfl [.tmp 8, .tmp 9] rfl (by simp) (by subst hκ; simp [SV.den, C.den, kid]) hH (fun v H' => IsX (.val (.tup [.c (.v (.int .i64 (κ _ (fixV l a n f)))), .c (.v (.int .i64 (κ _ (fixE l a n f))))])) v H') hκ ?_).mono ?_
  rotate_left
  · subst hκ; intro e w' h; exact h
  intro P' hP'
  cbv
  repeat' (first | refine And.intro ?_ ?_ | (intro _; cbv) | (refine tst_mk (fun h => ?_) (fun h => ?_) <;> cbv) | (refine LookX.nil ?_; cbv) | (refine LookX.auto hκ ?_; cbv))
  all_goals (try (show Side _; refine ⟨?_⟩; subst hκ; delta kid at *; first | exact rfl | exact trivial | exact ⟨rfl, rfl, .inl rfl⟩ | ((try dsimp only at *); (try simp only [setTo_len, noS_len, List.length_append, List.length_cons, List.length_nil, List.length_map, and_self, true_or, or_true, eq_self, true_and, and_true, Nat.zero_add, Nat.add_zero]); (first | done | omega); done)))
  all_goals (clear hH; subst hκ; delta kid at *; (try dsimp only at *))
  all_goals (try (exact ⟨trivial⟩))
  all_goals (try (exact ⟨by decide⟩))
  all_goals (show IsX _ _ _; refine IsX.val_ ?_; simp only [SV.den, SV.den0, C.den, List.map_cons, List.map_nil, fixV, fixE, bitB, lenW, GT.gt, GE.ge]; (try simp only [*, Bool.or_true, Bool.true_or, Bool.or_false, Bool.false_or, Bool.and_true, Bool.true_and, Bool.and_false, Bool.false_and, Bool.not_true, Bool.not_false, if_true, if_false, Bool.false_eq_true]); (first | done | rfl | (exfalso; simp_all; done) | skip))
def e_fixed {κ : Kp} (hκ : κ = kid) : ESpec Try.prog := fnES [.list, .flat, .flat, .flat] b_fixed F_fixed hκ fun avs p r hF hp => by
  unfold F_fixed at hF
  split at hF
  case h_2 => cases hF
  rename_i l xl a n f
  simp only [kid, Option.some.injEq, Prod.mk.injEq] at hF
  obtain ⟨rfl, rfl⟩ := hF
  refine ⟨trivial, fun vs w hR => ?_⟩
  obtain ⟨il, Al, cl, vs0, rfl, rfl, hl, hR⟩ := hR
  obtain ⟨vs1, rfl, hR⟩ := hR
  obtain ⟨vs2, rfl, hR⟩ := hR
  obtain ⟨vs3, rfl, hR⟩ := hR
  have hR' : vs3 = [] := hR
  subst hR'
  exact k_fixed l a n f Al cl hp w hl
theorem b_place : Bodied Try.prog 82 := bodied Try.func82 rfl (by decide)
def F_place : FunX := fun κ avs => match avs with
  | [.lst l xl, .val (.c (.v (.int .i64 a))), .val (.c (.v (.int .i64 n))), .val (.c (.v (.int .i64 f)))] => some (κ _ (l.length ≤ 300000), (.val (.tup [.c (.v (.int .i64 (κ _ (placeV l a n f)))), .c (.v (.int .i64 (κ _ (placeE l a n f))))])))
  | _ => none
set_option maxRecDepth 100000 in
set_option maxHeartbeats 4000000 in
theorem k_place (l : List Ar) (a : Int) (n : Int) (f : Int) (Al : Option Addr) (cl : Nat) (hside : l.length ≤ 300000) (w : World) (hl : (Ent.rd Al 6 l.length (encL l)).holds w) :
    Calls Try.prog 82 #[.slice Al l.length cl, (SV.c (.v (.int .i64 a))).den, (SV.c (.v (.int .i64 n))).den, (SV.c (.v (.int .i64 f))).den] w fun e w' => ∃ v H', e = .returned v.den ∧ IsX (.val (.tup [.c (.v (.int .i64 (placeV l a n f))), .c (.v (.int .i64 (placeE l a n f)))])) v H' ∧ HSat w (fun _ => False) H' w' := by
  obtain ⟨κ, hκ⟩ : ∃ κ : Kp, κ = kid := ⟨_, rfl⟩
  have hH : HSat w (fun _ => False) (heapOf [(nilId, .rd none 1 0 []), (200000, .rd Al 6 (κ _ l.length) (κ _ (encL l)))]) w := by
    subst hκ
    refine HSat.reads fun p hp => ?_
    simp only [List.mem_cons, List.not_mem_nil, or_false] at hp
    rcases hp with rfl | rfl
    · exact ⟨_, _, _, _, rfl, nil_holds w⟩
    · exact ⟨_, _, _, _, rfl, hl⟩
  refine (callsP (n := 55) FTok [e_maym hκ, e_fixed hκ, e_fits hκ, e_lowest hκ, e_highest hκ] mixed [] Try.func82 rfl (by kernel_rfl) #[.slice Al l.length cl, (SV.c (.v (.int .i64 a))).den, (SV.c (.v (.int .i64 n))).den, (SV.c (.v (.int .i64 f))).den] [(0, .c (.sl 200000 Al (κ _ l.length) cl)), (1, .c (.v (.int .i64 a))), (2, .c (.v (.int .i64 n))), (3, .c (.v (.int .i64 f)))] _ w rfl [.tmp 8, .tmp 9] rfl (by simp) (by subst hκ; simp [SV.den, C.den, kid]) hH (fun v H' => IsX (.val (.tup [.c (.v (.int .i64 (κ _ (placeV l a n f)))), .c (.v (.int .i64 (κ _ (placeE l a n f))))])) v H') hκ ?_).mono ?_
  rotate_left
  · subst hκ; intro e w' h; exact h
  intro P' hP'
  cbv
  repeat' (first | refine And.intro ?_ ?_ | (intro _; cbv) | (refine tst_mk (fun h => ?_) (fun h => ?_) <;> cbv) | (refine LookX.nil ?_; cbv) | (refine LookX.auto hκ ?_; cbv))
  all_goals (try (show Side _; refine ⟨?_⟩; subst hκ; delta kid at *; first | exact rfl | exact trivial | exact ⟨rfl, rfl, .inl rfl⟩ | ((try dsimp only at *); (try simp only [setTo_len, noS_len, List.length_append, List.length_cons, List.length_nil, List.length_map, and_self, true_or, or_true, eq_self, true_and, and_true, Nat.zero_add, Nat.add_zero]); (first | done | omega); done)))
  all_goals (clear hH; subst hκ; delta kid at *; (try dsimp only at *))
  all_goals (try (exact ⟨trivial⟩))
  all_goals (try (exact ⟨by decide⟩))
  all_goals (show IsX _ _ _; refine IsX.val_ ?_; simp only [SV.den, SV.den0, C.den, List.map_cons, List.map_nil, placeV, placeE, bitB, pickV, pickB, GT.gt, GE.ge]; (try simp only [*, Bool.or_true, Bool.true_or, Bool.or_false, Bool.false_or, Bool.and_true, Bool.true_and, Bool.and_false, Bool.false_and, Bool.not_true, Bool.not_false, if_true, if_false, Bool.false_eq_true]); (first | done | rfl | (exfalso; simp_all; done) | skip))
def e_place {κ : Kp} (hκ : κ = kid) : ESpec Try.prog := fnES [.list, .flat, .flat, .flat] b_place F_place hκ fun avs p r hF hp => by
  unfold F_place at hF
  split at hF
  case h_2 => cases hF
  rename_i l xl a n f
  simp only [kid, Option.some.injEq, Prod.mk.injEq] at hF
  obtain ⟨rfl, rfl⟩ := hF
  refine ⟨trivial, fun vs w hR => ?_⟩
  obtain ⟨il, Al, cl, vs0, rfl, rfl, hl, hR⟩ := hR
  obtain ⟨vs1, rfl, hR⟩ := hR
  obtain ⟨vs2, rfl, hR⟩ := hR
  obtain ⟨vs3, rfl, hR⟩ := hR
  have hR' : vs3 = [] := hR
  subst hR'
  exact k_place l a n f Al cl hp w hl
end Go.Proofs.Ytbcicjmepojlnaa.Eng
/- Pages put and cut, as lists; some of a range's pages; no condition but those typed. -/
namespace Go.Proofs.Ytbcicjmepojlnaa.Eng
open Go Go.RowKit
set_option autoImplicit false
set_option linter.unusedSimpArgs false
set_option linter.unusedVariables false
def woP (q0 : Nat) (s : List Pg) : Nat → List Pg
  | 0 => s
  | k + 1 => (woP q0 s k).set (q0 + k) noPg
theorem woP_len (q0 : Nat) (s : List Pg) : ∀ k, (woP q0 s k).length = s.length
  | 0 => rfl
  | k + 1 => List.length_set.trans (woP_len q0 s k)
theorem woP_get (q0 : Nat) {s : List Pg} (hs : s.length = 512) : ∀ (k : Nat), q0 + k ≤ 512 → ∀ q : Nat, nthP (woP q0 s k) q = if q0 ≤ q ∧ q < q0 + k then noPg else nthP s q
  | 0, _, q => by rw [if_neg (by omega)]; rfl
  | k + 1, hk, q => by
    have ih := woP_get q0 hs k (by omega)
    show nthP ((woP q0 s k).set (q0 + k) _) q = _
    rw [nthP_set _ (by rw [woP_len, hs]; omega), ih]
    by_cases h : q = q0 + k
    · subst h
      rw [if_pos rfl, if_pos (by omega)]
    · rw [if_neg h]
      by_cases h2 : q0 ≤ q ∧ q < q0 + k
      · rw [if_pos h2, if_pos (by omega)]
      · rw [if_neg h2, if_neg (by omega)]
theorem cut_pages {l : List Ar} (hl : Rt l) {lo hi : Int} (h : RgOk lo hi) : listS (woP (lo / 4096).toNat (ofL l) ((hi / 4096).toNat - (lo / 4096).toNat)) = cutL l lo hi := by
  obtain ⟨h1, h2, h3, h4, h5⟩ := h
  have hg := good_of hl
  have hq : (lo / 4096).toNat + ((hi / 4096).toNat - (lo / 4096).toNat) ≤ 512 := by omega
  have get := woP_get (lo / 4096).toNat hg.1 _ hq
  obtain ⟨s1, s2⟩ := cut_spec hl (lo := lo) (hi := hi) (by unfold In64; omega) (by unfold In64; omega)
  have hg2 : GoodS (woP (lo / 4096).toNat (ofL l) ((hi / 4096).toNat - (lo / 4096).toNat)) := ⟨by rw [woP_len, hg.1], fun q hq' hi' => by
    rw [get q] at hi' ⊢
    split at hi'
    · cases hi'
    · rename_i hc
      rw [if_neg hc]
      exact hg.2 q hq' hi'⟩
  obtain ⟨l1, l2⟩ := listS_spec hg2
  refine rt_ext l1 s1 fun x t hx => ?_
  rw [l2 x t hx, s2 x t hx]
  constructor
  · rintro ⟨q, rfl, g1, g2, g3, g4⟩
    rw [get q] at g3 g4
    split at g3
    · cases g3
    · rename_i hc
      rw [if_neg hc] at g4
      refine ⟨g4 ▸ of_has hl.ok g1 g2 g3, fun ht => hc ?_⟩
      have := ht.2.1
      have := ht.2.2
      omega
  · rintro ⟨g1, g2⟩
    have := has_range hl.1 g1
    have ex : 4096 * ((x / 4096).toNat : Int) = x := by omega
    obtain ⟨e1, e2⟩ := has_of hl.ok (q := (x / 4096).toNat) (t := t) (by rw [ex]; exact g1)
    have e : nthP (woP (lo / 4096).toNat (ofL l) ((hi / 4096).toNat - (lo / 4096).toNat)) (x / 4096).toNat = nthP (ofL l) (x / 4096).toNat := by
      rw [get, if_neg]
      intro hc
      exact g2 ⟨h3, by omega, by omega⟩
    exact ⟨(x / 4096).toNat, ex.symm, by omega, by omega, by rw [e]; exact e1, by rw [e]; exact e2⟩
def touB (q : Nat) (lo hi : Int) : Bool := decide (lo < hi) && (decide (lo < 4096 * (q : Int) + 4096) && decide (4096 * (q : Int) < hi))
end Go.Proofs.Ytbcicjmepojlnaa.Eng
/- The reference's With, Without, Some: pages put, cut, found; no condition but those typed. -/
namespace Go.Proofs.Ytbcicjmepojlnaa.Eng
open Go Go.RowKit
set_option autoImplicit false
set_option linter.unusedSimpArgs false
set_option linter.unusedVariables false
def offW (b o : Int) : Nat → Int
  | 0 => o
  | k + 1 => if decide (0 < b) = true then IntKind.i64.wrap (offW b o k + 4096) else offW b o k
theorem offW_y {b o : Int} {k : Nat} (h : decide (0 < b) = true) : IntKind.i64.wrap (offW b o k + 4096) = offW b o (k + 1) := (if_pos h).symm
theorem offW_n {b o : Int} {k : Nat} (h : decide (0 < b) = false) : offW b o k = offW b o (k + 1) := (if_neg (by rw [h]; simp)).symm
def pgW (t : At) (k : Nat) : Pg := ⟨true, ⟨t.p, t.sh, t.b, offW t.b t.o k⟩⟩
def withP (t : At) (q0 : Nat) (s : List Pg) : Nat → List Pg
  | 0 => s
  | k + 1 => (withP t q0 s k).set (q0 + k) (pgW t k)
theorem withP_len (t : At) (q0 : Nat) (s : List Pg) : ∀ k, (withP t q0 s k).length = s.length
  | 0 => rfl
  | k + 1 => List.length_set.trans (withP_len t q0 s k)
theorem withP_get (t : At) (q0 : Nat) {s : List Pg} (hs : s.length = 512) : ∀ (k : Nat), q0 + k ≤ 512 → ∀ q : Nat, nthP (withP t q0 s k) q = if q0 ≤ q ∧ q < q0 + k then pgW t (q - q0) else nthP s q
  | 0, _, q => by rw [if_neg (by omega)]; rfl
  | k + 1, hk, q => by
    have ih := withP_get t q0 hs k (by omega)
    show nthP ((withP t q0 s k).set (q0 + k) _) q = _
    rw [nthP_set _ (by rw [withP_len, hs]; omega), ih]
    by_cases h : q = q0 + k
    · subst h
      rw [if_pos rfl, if_pos (by omega), show q0 + k - q0 = k by omega]
    · rw [if_neg h]
      by_cases h2 : q0 ≤ q ∧ q < q0 + k
      · rw [if_pos h2, if_pos (by omega)]
      · rw [if_neg h2, if_neg (by omega)]
theorem offW_eq {b o : Int} (hb : 0 < b) (h0 : 0 ≤ o) : ∀ k : Nat, k ≤ 512 → o ≤ 1099511627776 → offW b o k = o + 4096 * (k : Int)
  | 0, _, _ => by show o = _; omega
  | k + 1, hk, ho => by
    have ih := offW_eq hb h0 k (by omega) ho
    show (if _ then _ else _) = _
    rw [if_pos (by rw [decide_eq_true_eq]; exact hb), ih]
    have e : IntKind.i64.wrap (o + 4096 * (k : Int) + 4096) = o + 4096 * (k : Int) + 4096 := w64_id (by unfold In64; omega)
    rw [e]
    omega
theorem offW_0 {b o : Int} (hb : ¬ 0 < b) : ∀ k : Nat, offW b o k = o
  | 0 => rfl
  | k + 1 => by
    show (if _ then _ else _) = _
    rw [if_neg (by rw [decide_eq_true_eq]; exact hb)]
    exact offW_0 hb k
theorem pg_ext {s t : List Pg} (h1 : s.length = 512) (h2 : t.length = 512) (h : ∀ q, q < 512 → nthP s q = nthP t q) : s = t := by
  refine List.ext_getElem (by rw [h1, h2]) fun q hq hq2 => ?_
  have e := h q (by omega)
  have e1 := nthP_get hq
  have e2 := nthP_get hq2
  rw [List.getElem?_eq_getElem hq] at e1
  rw [List.getElem?_eq_getElem hq2] at e2
  injection e1 with e1
  injection e2 with e2
  rw [e1, e2, e]
theorem with_of {a : Ar} (ha : Fo a) {s : List Pg} (hs : s.length = 512) : withP ⟨a.p, a.sh, a.b, a.o⟩ (a.s / 4096).toNat s (lenA a) = ofA a s (lenA a) := by
  have a1 := ha.s0; have a2 := ha.e0; have a3 := ha.lo; have a4 := ha.hi; have a5 := ha.lt; have a6 := ha.b0
  have hl : (lenA a : Int) = a.e / 4096 - a.s / 4096 := by unfold lenA; omega
  refine pg_ext (by rw [withP_len, hs]) (by rw [ofA_len, hs]) fun q hq => ?_
  rw [withP_get _ _ hs _ (by omega), ofA_get ha hs _ (Nat.le_refl _)]
  by_cases h : (a.s / 4096).toNat ≤ q ∧ q < (a.s / 4096).toNat + lenA a
  · rw [if_pos h, if_pos (by omega)]
    unfold pgW pgOf ext
    congr 2
    show offW a.b a.o _ = offP a _
    unfold offP
    by_cases hb : a.b = 0
    · rw [if_pos hb, offW_0 (by omega)]
      exact ha.oz hb
    · have hm := ha.om hb
      rw [if_neg hb, offW_eq (by omega) (by omega) _ (by omega) (by omega)]
      omega
  · rw [if_neg h, if_neg (by omega)]
theorem page_put5 {s : List Pg} (hs : s.length = 512) {m : Nat} (hm : m < 512) (p : Pg) : putCells (encS s) (0 + ((m : Nat) : Int).toNat * 5) [.v (.bool p.is), .v (.int .i64 p.t.p), .v (.bool p.t.sh), .v (.int .i64 p.t.b), .v (.int .i64 p.t.o)] = encS (s.set m p) := by
  rw [Int.toNat_natCast, Nat.zero_add]
  exact page_put p (by omega)
theorem page_fit5 {s : List Pg} (hs : s.length = 512) {m : Nat} (hm : m < 512) : 0 + ((m : Nat) : Int).toNat * 5 + 5 ≤ (encS s).length := by
  rw [encS_len, hs, Int.toNat_natCast]
  omega
theorem tou_a {p : Int} {lo hi : Int} (h : decide (lo < hi) = false) : touB p.toNat lo hi = false := by unfold touB; rw [h]; rfl
theorem tou_w {p : Int} (h : 0 ≤ p ∧ p < 512) : IntKind.i64.wrap (4096 * p) = 4096 * (p.toNat : Int) ∧ IntKind.i64.wrap (4096 * (p.toNat : Int) + 4096) = 4096 * (p.toNat : Int) + 4096 := by
  have e1 : IntKind.i64.wrap (4096 * p) = 4096 * p := w64_id (by unfold In64; omega)
  have e2 : IntKind.i64.wrap (4096 * (p.toNat : Int) + 4096) = 4096 * (p.toNat : Int) + 4096 := w64_id (by unfold In64; omega)
  rw [e1]
  exact ⟨by omega, e2⟩
theorem tou_b {p : Int} {lo hi : Int} (hp : 0 ≤ p ∧ p < 512) (h1 : decide (lo < hi) = true) (h : decide (lo < IntKind.i64.wrap (IntKind.i64.wrap (4096 * p) + 4096)) = false) : touB p.toNat lo hi = false := by
  rw [(tou_w hp).1, (tou_w hp).2] at h
  unfold touB
  rw [h, Bool.false_and, Bool.and_false]
theorem tou_c {p : Int} {lo hi : Int} (hp : 0 ≤ p ∧ p < 512) (h1 : decide (lo < hi) = true) (h : decide (lo < IntKind.i64.wrap (IntKind.i64.wrap (4096 * p) + 4096)) = true) : decide (IntKind.i64.wrap (4096 * p) < hi) = touB p.toNat lo hi := by
  rw [(tou_w hp).1, (tou_w hp).2] at h
  rw [(tou_w hp).1]
  unfold touB
  rw [h, h1]
  rfl
end Go.Proofs.Ytbcicjmepojlnaa.Eng
/- Contracts of functions (printed by genx.py of this work): what each hands back; condition: as its 'hside' says. -/
namespace Go.Proofs.Ytbcicjmepojlnaa.Eng
open Go Go.RowKit
set_option linter.unusedVariables false
set_option linter.unusedSimpArgs false
theorem b_touched : Bodied Try.prog 88 := bodied Try.func88 rfl (by decide)
def F_touched : FunX := fun κ avs => match avs with
  | [.val (.c (.v (.int .i64 p))), .val (.c (.v (.int .i64 lo))), .val (.c (.v (.int .i64 hi)))] => some (κ _ (0 ≤ p ∧ p < 512), (.val (.c (.v (.bool (κ _ (touB p.toNat lo hi)))))))
  | _ => none
set_option maxRecDepth 100000 in
set_option maxHeartbeats 4000000 in
theorem k_touched (p : Int) (lo : Int) (hi : Int) (hside : 0 ≤ p ∧ p < 512) (w : World) :
    Calls Try.prog 88 #[(SV.c (.v (.int .i64 p))).den, (SV.c (.v (.int .i64 lo))).den, (SV.c (.v (.int .i64 hi))).den] w fun e w' => ∃ v H', e = .returned v.den ∧ IsX (.val (.c (.v (.bool (touB p.toNat lo hi))))) v H' ∧ HSat w (fun _ => False) H' w' := by
  obtain ⟨κ, hκ⟩ : ∃ κ : Kp, κ = kid := ⟨_, rfl⟩
  have hH : HSat w (fun _ => False) (heapOf [(nilId, .rd none 1 0 [])]) w := by
    subst hκ
    refine HSat.reads fun p hp => ?_
    simp only [List.mem_cons, List.not_mem_nil, or_false] at hp
    rcases hp with rfl
    · exact ⟨_, _, _, _, rfl, nil_holds w⟩
  refine (callsP (n := 23) FTok [] mixed [] Try.func88 rfl (by kernel_rfl) #[(SV.c (.v (.int .i64 p))).den, (SV.c (.v (.int .i64 lo))).den, (SV.c (.v (.int .i64 hi))).den] [(0, .c (.v (.int .i64 p))), (1, .c (.v (.int .i64 lo))), (2, .c (.v (.int .i64 hi)))] _ w rfl [.tmp 6] rfl (by simp) (by subst hκ; simp [SV.den, C.den, kid]) hH (fun v H' => IsX (.val (.c (.v (.bool (κ _ (touB p.toNat lo hi)))))) v H') hκ ?_).mono ?_
  rotate_left
  · subst hκ; intro e w' h; exact h
  intro P' hP'
  cbv
  repeat' (first | refine And.intro ?_ ?_ | (intro _; cbv) | (refine tst_mk (fun h => ?_) (fun h => ?_) <;> cbv) | (refine LookX.nil ?_; cbv) | (refine LookX.auto hκ ?_; cbv))
  all_goals (clear hH; subst hκ; delta kid at *; (try dsimp only at *))
  all_goals (show IsX _ _ _; first | exact IsX.bool_ (tou_a (by with_reducible assumption)).symm | exact IsX.bool_ (tou_b hside (by with_reducible assumption) (by with_reducible assumption)).symm | exact IsX.bool_ (tou_c hside (by with_reducible assumption) (by with_reducible assumption)))
def e_touched {κ : Kp} (hκ : κ = kid) : ESpec Try.prog := fnES [.flat, .flat, .flat] b_touched F_touched hκ fun avs p r hF hp => by
  unfold F_touched at hF
  split at hF
  case h_2 => cases hF
  rename_i p lo hi
  simp only [kid, Option.some.injEq, Prod.mk.injEq] at hF
  obtain ⟨rfl, rfl⟩ := hF
  refine ⟨trivial, fun vs w hR => ?_⟩
  obtain ⟨vs0, rfl, hR⟩ := hR
  obtain ⟨vs1, rfl, hR⟩ := hR
  obtain ⟨vs2, rfl, hR⟩ := hR
  have hR' : vs2 = [] := hR
  subst hR'
  exact k_touched p lo hi hp w
theorem b_rwithout : Bodied Try.prog 122 := bodied Try.func122 rfl (by decide)
def F_rwithout : FunX := fun κ avs => match avs with
  | [.spc s, .val (.c (.v (.int .i64 lo))), .val (.c (.v (.int .i64 hi)))] => some (κ _ (0 ≤ lo ∧ lo ≤ hi ∧ hi ≤ 2097152), (.val (.agg (κ _ (encS (woP (lo / 4096).toNat s ((hi / 4096).toNat - (lo / 4096).toNat)))))))
  | _ => none
set_option maxRecDepth 100000 in
set_option maxHeartbeats 4000000 in
theorem k_rwithout (s : List Pg) (lo : Int) (hi : Int) (hside : 0 ≤ lo ∧ lo ≤ hi ∧ hi ≤ 2097152) (ns : s.length = 512) (w : World) :
    Calls Try.prog 122 #[(SV.agg (encS s)).den, (SV.c (.v (.int .i64 lo))).den, (SV.c (.v (.int .i64 hi))).den] w fun e w' => ∃ v H', e = .returned v.den ∧ IsX (.val (.agg (encS (woP (lo / 4096).toNat s ((hi / 4096).toNat - (lo / 4096).toNat))))) v H' ∧ HSat w (fun _ => False) H' w' := by
  obtain ⟨κ, hκ⟩ : ∃ κ : Kp, κ = kid := ⟨_, rfl⟩
  have hH : HSat w (fun _ => False) (heapOf [(nilId, .rd none 1 0 [])]) w := by
    subst hκ
    refine HSat.reads fun p hp => ?_
    simp only [List.mem_cons, List.not_mem_nil, or_false] at hp
    rcases hp with rfl
    · exact ⟨_, _, _, _, rfl, nil_holds w⟩
  refine (callsP (n := 20) FTok [] mixed [] Try.func122 rfl (by kernel_rfl) #[(SV.agg (encS s)).den, (SV.c (.v (.int .i64 lo))).den, (SV.c (.v (.int .i64 hi))).den] [(0, .agg (κ _ (encS s))), (1, .c (.v (.int .i64 lo))), (2, .c (.v (.int .i64 hi)))] _ w rfl [.cell 6 37] rfl (by simp) (by subst hκ; simp [SV.den, C.den, kid]) hH (fun v H' => IsX (.val (.agg (κ _ (encS (woP (lo / 4096).toNat s ((hi / 4096).toNat - (lo / 4096).toNat)))))) v H') hκ ?_).mono ?_
  rotate_left
  · subst hκ; intro e w' h; exact h
  intro P' hP'
  cbv
  repeat' (first | refine And.intro ?_ ?_ | (intro _; cbv) | (refine tst_mk (fun h => ?_) (fun h => ?_) <;> cbv) | (refine LookX.nil ?_; cbv) | (refine LookX.auto hκ ?_; cbv))
  all_goals (try (show _ = true; subst hκ; delta kid; (have ho := encS_ok (s); generalize encS (s) = xs at ho ⊢; cases xs <;> exact ho)))
  all_goals (try (show Side _; (clear hH; subst hκ; delta kid at *; (try dsimp only at *)); exact ⟨by decide⟩))
  rename_i b3 b6
  have hq0 := pro_q (a := lo) hside.1 (by omega)
  have hq1 := pro_q (a := hi) (by omega) hside.2.2
  obtain ⟨q0, e0⟩ : ∃ q, q = (lo / 4096).toNat := ⟨_, rfl⟩
  obtain ⟨q1, e1⟩ : ∃ q, q = (hi / 4096).toNat := ⟨_, rfl⟩
  have w0 : IntKind.i64.wrap (Int.tdiv lo 4096) = (q0 : Int) := by rw [e0]; exact hq0.1
  have w1 : IntKind.i64.wrap (Int.tdiv hi 4096) = (q1 : Int) := by rw [e1]; exact hq1.1
  have hq2 : q1 ≤ 512 := by omega
  have hq3 : q0 ≤ q1 := by omega
  refine loopP hP' FTok [] mixed [1, 2, 3, 6] (σ := {k : Nat // q0 + k ≤ q1}) (fun q => [(7, .c (.v (.int .i64 (κ _ ((q0 + q.1 : Nat) : Int)))))]) (fun q => [(3, .blk b3 37 (κ _ (encS (woP q0 s q.1)))), (6, .blk b6 37 (κ _ (encS noS)))]) (fun q => q1 - (q0 + q.1)) ⟨0, hq3⟩ [3, 6] ?_ (by decide) ?_ hκ ?_
  · cbv
    all_goals (subst hκ; delta kid; repeat' (first | exact rfl | exact trivial | refine And.intro ?_ ?_ | exact congrArg (Value.int .i64) w0))
  · cbv
    all_goals (subst hκ; delta kid; repeat' (first | exact rfl | exact trivial | refine And.intro ?_ ?_ | exact congrArg (List.map C.den) encS_noS))
  rintro ⟨k, hk⟩
  cbv
  refine ⟨⟨by subst hκ; delta kid; decide⟩, ?_⟩
  refine tst_mk (fun h => ?_) (fun h => ?_)
  · have hx : q0 + k < q1 := by subst hκ; delta kid at h; exact pro_lt w1 h
    have hm : q0 + k < 512 := by omega
    have hn : (woP q0 s k).length = 512 := by rw [woP_len, ns]
    cbv
    repeat' (first | refine And.intro ?_ ?_ | (intro _; cbv) | (refine tst_mk (fun h => ?_) (fun h => ?_) <;> cbv) | (refine LookX.nil ?_; cbv) | (refine LookX.auto hκ ?_; cbv))
    all_goals (clear hH; subst hκ; delta kid at *; (try dsimp only at *))
    all_goals (try (exact ⟨page_ix hm⟩))
    all_goals (try (exact ⟨page_fit5 hn hm⟩))
    refine ⟨⟨⟨k + 1, (by omega)⟩, [3, 6], (by show q1 - (q0 + (k + 1)) < q1 - (q0 + k); omega), by decide, ?_, ?_⟩⟩
    all_goals repeat' (first | exact rfl | exact trivial | refine And.intro ?_ ?_ | exact congrArg (Value.int .i64) (nat_succ (by omega)) | exact congrArg (List.map C.den) (page_put5 hn hm noPg))
  · have hx : q0 + k = q1 := by subst hκ; delta kid at h; exact Nat.le_antisymm hk (pro_ge w1 h)
    have hn : (woP q0 s k).length = 512 := by rw [woP_len, ns]
    cbv
    repeat' (first | refine And.intro ?_ ?_ | (intro _; cbv) | (refine tst_mk (fun h => ?_) (fun h => ?_) <;> cbv) | (refine LookX.nil ?_; cbv) | (refine LookX.auto hκ ?_; cbv) | (refine LookN.mk' (x := κ _ (encS (woP q0 s k))) (by subst hκ; delta kid at *; exact whole_take hn) ?_; cbv) | (refine LookN.mk' (x := κ _ (encS (woP q0 s k))) (by subst hκ; delta kid at *; exact whole_put hn noS_len) ?_; cbv))
    all_goals (try (show _ = true; subst hκ; delta kid; (have ho := encS_ok (woP q0 s k); generalize encS (woP q0 s k) = xs at ho ⊢; cases xs <;> exact ho)))
    all_goals (try (show 2560 = _; subst hκ; delta kid; (have ho := encS_len2 (s := woP q0 s k) (hn); generalize encS (woP q0 s k) = xs at ho ⊢; cases xs <;> exact ho.symm)))
    all_goals (clear hH; subst hκ; delta kid at *; (try dsimp only at *))
    all_goals (try (exact ⟨by rw [encS_len, encS_len, hn, noS_len]; omega⟩))
    obtain rfl : k = q1 - q0 := by omega
    subst e0 e1
    exact IsX.val_ rfl
def e_rwithout {κ : Kp} (hκ : κ = kid) : ESpec Try.prog := fnES [.space, .flat, .flat] b_rwithout F_rwithout hκ fun avs p r hF hp => by
  unfold F_rwithout at hF
  split at hF
  case h_2 => cases hF
  rename_i s lo hi
  simp only [kid, Option.some.injEq, Prod.mk.injEq] at hF
  obtain ⟨rfl, rfl⟩ := hF
  refine ⟨trivial, fun vs w hR => ?_⟩
  obtain ⟨vs0, rfl, ns, hR⟩ := hR
  obtain ⟨vs1, rfl, hR⟩ := hR
  obtain ⟨vs2, rfl, hR⟩ := hR
  have hR' : vs2 = [] := hR
  subst hR'
  exact k_rwithout s lo hi hp ns w
theorem b_rwith : Bodied Try.prog 121 := bodied Try.func121 rfl (by decide)
def F_rwith : FunX := fun κ avs => match avs with
  | [.spc s, .val (.c (.v (.int .i64 lo))), .val (.c (.v (.int .i64 hi))), .val (.agg [.v (.int .i64 t1), .v (.bool t2), .v (.int .i64 t3), .v (.int .i64 t4)])] => some (κ _ (0 ≤ lo ∧ lo ≤ hi ∧ hi ≤ 2097152), (.val (.agg (κ _ (encS (withP (⟨t1, t2, t3, t4⟩ : At) (lo / 4096).toNat s ((hi / 4096).toNat - (lo / 4096).toNat)))))))
  | _ => none
set_option maxRecDepth 100000 in
set_option maxHeartbeats 4000000 in
theorem k_rwith (s : List Pg) (lo : Int) (hi : Int) (t1 : Int) (t2 : Bool) (t3 : Int) (t4 : Int) (hside : 0 ≤ lo ∧ lo ≤ hi ∧ hi ≤ 2097152) (ns : s.length = 512) (w : World) :
    Calls Try.prog 121 #[(SV.agg (encS s)).den, (SV.c (.v (.int .i64 lo))).den, (SV.c (.v (.int .i64 hi))).den, (SV.agg [.v (.int .i64 t1), .v (.bool t2), .v (.int .i64 t3), .v (.int .i64 t4)]).den] w fun e w' => ∃ v H', e = .returned v.den ∧ IsX (.val (.agg (encS (withP (⟨t1, t2, t3, t4⟩ : At) (lo / 4096).toNat s ((hi / 4096).toNat - (lo / 4096).toNat))))) v H' ∧ HSat w (fun _ => False) H' w' := by
  obtain ⟨κ, hκ⟩ : ∃ κ : Kp, κ = kid := ⟨_, rfl⟩
  have hH : HSat w (fun _ => False) (heapOf [(nilId, .rd none 1 0 [])]) w := by
    subst hκ
    refine HSat.reads fun p hp => ?_
    simp only [List.mem_cons, List.not_mem_nil, or_false] at hp
    rcases hp with rfl
    · exact ⟨_, _, _, _, rfl, nil_holds w⟩
  refine (callsP (n := 30) FTok [] mixed [] Try.func121 rfl (by kernel_rfl) #[(SV.agg (encS s)).den, (SV.c (.v (.int .i64 lo))).den, (SV.c (.v (.int .i64 hi))).den, (SV.agg [.v (.int .i64 t1), .v (.bool t2), .v (.int .i64 t3), .v (.int .i64 t4)]).den] [(0, .agg (κ _ (encS s))), (1, .c (.v (.int .i64 lo))), (2, .c (.v (.int .i64 hi))), (3, .agg [.v (.int .i64 t1), .v (.bool t2), .v (.int .i64 t3), .v (.int .i64 t4)])] _ w rfl [.cell 8 37] rfl (by simp) (by subst hκ; simp [SV.den, C.den, kid]) hH (fun v H' => IsX (.val (.agg (κ _ (encS (withP (⟨t1, t2, t3, t4⟩ : At) (lo / 4096).toNat s ((hi / 4096).toNat - (lo / 4096).toNat)))))) v H') hκ ?_).mono ?_
  rotate_left
  · subst hκ; intro e w' h; exact h
  intro P' hP'
  cbv
  repeat' (first | refine And.intro ?_ ?_ | (intro _; cbv) | (refine tst_mk (fun h => ?_) (fun h => ?_) <;> cbv) | (refine LookX.nil ?_; cbv) | (refine LookX.auto hκ ?_; cbv))
  all_goals (try (show _ = true; subst hκ; delta kid; (have ho := encS_ok (s); generalize encS (s) = xs at ho ⊢; cases xs <;> exact ho)))
  all_goals (try (show Side _; (clear hH; subst hκ; delta kid at *; (try dsimp only at *)); exact ⟨by decide⟩))
  rename_i b4 b7 b8
  have hq0 := pro_q (a := lo) hside.1 (by omega)
  have hq1 := pro_q (a := hi) (by omega) hside.2.2
  obtain ⟨q0, e0⟩ : ∃ q, q = (lo / 4096).toNat := ⟨_, rfl⟩
  obtain ⟨q1, e1⟩ : ∃ q, q = (hi / 4096).toNat := ⟨_, rfl⟩
  have w0 : IntKind.i64.wrap (Int.tdiv lo 4096) = (q0 : Int) := by rw [e0]; exact hq0.1
  have w1 : IntKind.i64.wrap (Int.tdiv hi 4096) = (q1 : Int) := by rw [e1]; exact hq1.1
  have hq2 : q1 ≤ 512 := by omega
  have hq3 : q0 ≤ q1 := by omega
  refine loopP hP' FTok [] mixed [1, 2, 4, 7, 8] (σ := {k : Nat // q0 + k ≤ q1}) (fun q => [(9, .c (.v (.int .i64 (κ _ ((q0 + q.1 : Nat) : Int)))))]) (fun q => [(4, .blk b4 37 (κ _ (encS (withP (⟨t1, t2, t3, t4⟩ : At) q0 s q.1)))), (7, .blk b7 29 [.v (.int .i64 t1), .v (.bool t2), .v (.int .i64 t3), .v (.int .i64 (κ _ (offW t3 t4 q.1)))]), (8, .blk b8 37 (κ _ (encS noS)))]) (fun q => q1 - (q0 + q.1)) ⟨0, hq3⟩ [4, 7, 8] ?_ (by decide) ?_ hκ ?_
  · cbv
    all_goals (subst hκ; delta kid; repeat' (first | exact rfl | exact trivial | refine And.intro ?_ ?_ | exact congrArg (Value.int .i64) w0))
  · cbv
    all_goals (subst hκ; delta kid; repeat' (first | exact rfl | exact trivial | refine And.intro ?_ ?_ | exact congrArg (List.map C.den) encS_noS))
  rintro ⟨k, hk⟩
  cbv
  refine ⟨⟨by subst hκ; delta kid; decide⟩, ?_⟩
  refine tst_mk (fun h => ?_) (fun h => ?_)
  · have hx : q0 + k < q1 := by subst hκ; delta kid at h; exact pro_lt w1 h
    have hm : q0 + k < 512 := by omega
    have hn : (withP (⟨t1, t2, t3, t4⟩ : At) q0 s k).length = 512 := by rw [withP_len, ns]
    cbv
    repeat' (first | refine And.intro ?_ ?_ | (intro _; cbv) | (refine tst_mk (fun h => ?_) (fun h => ?_) <;> cbv) | (refine LookX.nil ?_; cbv) | (refine LookX.auto hκ ?_; cbv))
    all_goals (clear hH; subst hκ; delta kid at *; (try dsimp only at *))
    all_goals (try (exact ⟨page_ix hm⟩))
    all_goals (try (exact ⟨page_fit5 hn hm⟩))
    all_goals refine ⟨⟨⟨k + 1, (by omega)⟩, [4, 7, 8], (by show q1 - (q0 + (k + 1)) < q1 - (q0 + k); omega), by decide, ?_, ?_⟩⟩
    all_goals repeat' (first | exact rfl | exact trivial | refine And.intro ?_ ?_ | exact congrArg (Value.int .i64) (nat_succ (by omega)) | exact congrArg (fun v => List.map C.den [C.v (.int .i64 t1), .v (.bool t2), .v (.int .i64 t3), .v (.int .i64 v)]) (offW_y h) | exact congrArg (fun v => List.map C.den [C.v (.int .i64 t1), .v (.bool t2), .v (.int .i64 t3), .v (.int .i64 v)]) (offW_n h) | exact congrArg (List.map C.den) (page_put5 hn hm (pgW (⟨t1, t2, t3, t4⟩ : At) k)))
  · have hx : q0 + k = q1 := by subst hκ; delta kid at h; exact Nat.le_antisymm hk (pro_ge w1 h)
    have hn : (withP (⟨t1, t2, t3, t4⟩ : At) q0 s k).length = 512 := by rw [withP_len, ns]
    cbv
    repeat' (first | refine And.intro ?_ ?_ | (intro _; cbv) | (refine tst_mk (fun h => ?_) (fun h => ?_) <;> cbv) | (refine LookX.nil ?_; cbv) | (refine LookX.auto hκ ?_; cbv) | (refine LookN.mk' (x := κ _ (encS (withP (⟨t1, t2, t3, t4⟩ : At) q0 s k))) (by subst hκ; delta kid at *; exact whole_take hn) ?_; cbv) | (refine LookN.mk' (x := κ _ (encS (withP (⟨t1, t2, t3, t4⟩ : At) q0 s k))) (by subst hκ; delta kid at *; exact whole_put hn noS_len) ?_; cbv))
    all_goals (try (show _ = true; subst hκ; delta kid; (have ho := encS_ok (withP (⟨t1, t2, t3, t4⟩ : At) q0 s k); generalize encS (withP (⟨t1, t2, t3, t4⟩ : At) q0 s k) = xs at ho ⊢; cases xs <;> exact ho)))
    all_goals (try (show 2560 = _; subst hκ; delta kid; (have ho := encS_len2 (s := withP (⟨t1, t2, t3, t4⟩ : At) q0 s k) (hn); generalize encS (withP (⟨t1, t2, t3, t4⟩ : At) q0 s k) = xs at ho ⊢; cases xs <;> exact ho.symm)))
    all_goals (clear hH; subst hκ; delta kid at *; (try dsimp only at *))
    all_goals (try (exact ⟨by rw [encS_len, encS_len, hn, noS_len]; omega⟩))
    obtain rfl : k = q1 - q0 := by omega
    subst e0 e1
    exact IsX.val_ rfl
def e_rwith {κ : Kp} (hκ : κ = kid) : ESpec Try.prog := fnES [.space, .flat, .flat, .flat] b_rwith F_rwith hκ fun avs p r hF hp => by
  unfold F_rwith at hF
  split at hF
  case h_2 => cases hF
  rename_i s lo hi t1 t2 t3 t4
  simp only [kid, Option.some.injEq, Prod.mk.injEq] at hF
  obtain ⟨rfl, rfl⟩ := hF
  refine ⟨trivial, fun vs w hR => ?_⟩
  obtain ⟨vs0, rfl, ns, hR⟩ := hR
  obtain ⟨vs1, rfl, hR⟩ := hR
  obtain ⟨vs2, rfl, hR⟩ := hR
  obtain ⟨vs3, rfl, hR⟩ := hR
  have hR' : vs3 = [] := hR
  subst hR'
  exact k_rwith s lo hi t1 t2 t3 t4 hp ns w
end Go.Proofs.Ytbcicjmepojlnaa.Eng
/- The reference's Unmap, as the program's; no condition but those typed. -/
namespace Go.Proofs.Ytbcicjmepojlnaa.Eng
open Go Go.RowKit
set_option autoImplicit false
set_option linter.unusedSimpArgs false
set_option linter.unusedVariables false
section
variable {l : List Ar} {c : Cl}
end
theorem kept_len (l now : List Ar) : (keptL l now).length ≤ l.length + 24 := by
  unfold keptL
  split
  · omega
  · rename_i h
    have h2 : decide ((24 : Int) < (now.length : Int)) = false := by simpa using h
    have := of_decide_eq_false h2
    omega
theorem keptN_er {now l : List Ar} {v : Int} (h : ((keptN now v).er != 0) = true) : keptL l now = l := by
  unfold keptN at h
  unfold keptL
  split at h
  · rename_i h2
    rw [if_pos h2]
  · cases h
end Go.Proofs.Ytbcicjmepojlnaa.Eng
/- Contracts of functions (printed by genx.py of this work): what each hands back; condition: as its 'hside' says. -/
namespace Go.Proofs.Ytbcicjmepojlnaa.Eng
open Go Go.RowKit
set_option linter.unusedVariables false
set_option linter.unusedSimpArgs false
end Go.Proofs.Ytbcicjmepojlnaa.Eng
