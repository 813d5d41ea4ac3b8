/- Texts of this work, laid together: symbolic execution over the model, contracts of the program's functions, what they come to; conditions: as each says. -/
import Derived.Test.YtbcicjmepojlnaaPkZAY
import Derived.Test.YtbcicjmepojlnaaPkZAZ
import Derived.Test.YtbcicjmepojlnaaPkZBD
import Derived.Test.YtbcicjmepojlnaaPkZBE
/- Loops over gaps; the reference's free pages, choices; no condition but those typed. -/
namespace Go.Proofs.Ytbcicjmepojlnaa.Eng
open Go Go.RowKit
set_option autoImplicit false
set_option linter.unusedSimpArgs false
set_option linter.unusedVariables false
theorem g_take {l : List Gp} {i : Nat} (h : i < l.length) : takeN (encG l) (((i : Nat) : Int).toNat * 2) 2 = some [.v (.int .i64 (nthG l i).s), .v (.int .i64 (nthG l i).e)] := by
  rw [Int.toNat_natCast]
  exact enc_take encGp_len (by decide) l i _ (nthG_get h)
theorem g_ix {l : List Gp} {i : Nat} (h : i < l.length) : 0 < 2 ∧ 0 ≤ ((i : Nat) : Int) ∧ ((i : Nat) : Int) < (l.length : Int) := by omega
theorem g_next {l : List Gp} {i : Nat} (h : i < l.length) : l.take (i + 1) = l.take i ++ [nthG l i] := by
  have h2 := nthG_get h
  rw [List.take_add_one, h2]
  rfl
theorem nthG_mem {l : List Gp} {i : Nat} (h : i < l.length) : nthG l i ∈ l := List.mem_of_getElem? (nthG_get h)
def largeStep (n : Int) (g : Gp) : Int := maxI n (w64 (g.e - g.s))
def largeF (l : List Gp) : Int := l.foldl largeStep 0
theorem large_next {l : List Gp} {i : Nat} (h : i < l.length) : largeStep (largeF (l.take i)) (nthG l i) = largeF (l.take (i + 1)) := by
  unfold largeF
  rw [g_next h, List.foldl_append]
  rfl
def fitG (a n : Int) (g : Gp) : Bool := decide (a ≥ g.s) && decide (w64 (a + n) ≤ g.e)
section
variable {l : List Ar} {a n : Int}
theorem fits_a (h : sizeG n = false) : fitsL l a n = false := by unfold fitsL; rw [if_pos (by rw [h]; simp)]
theorem fits_b (h : (Int.tmod a 4096 != 0) = true) : fitsL l a n = false := by unfold fitsL; rw [if_pos (by rw [h]; simp)]
theorem fits_c (h : decide (a < 65536) = true) : fitsL l a n = false := by unfold fitsL; rw [if_pos (by rw [h]; simp)]
theorem fits_d (h : decide (IntKind.i64.wrap (2097152 - n) < a) = true) : fitsL l a n = false := by unfold fitsL; rw [if_pos (by rw [show decide (a > w64 (2097152 - n)) = true from h]; simp)]
theorem fits_e (h1 : sizeG n = true) (h2 : (Int.tmod a 4096 != 0) = false) (h3 : decide (a < 65536) = false) (h4 : decide (IntKind.i64.wrap (2097152 - n) < a) = false) : fitsL l a n = (gapsL l).any (fitG a n) := by
  unfold fitsL
  rw [if_neg (by rw [h1, h2, h3, show decide (a > w64 (2097152 - n)) = false from h4]; simp)]
  rfl
end
def NoneTo (p : Gp → Bool) (l : List Gp) (i : Nat) : Prop := ∀ j, j < i → p (nthG l j) = false
theorem none_next {p : Gp → Bool} {l : List Gp} {i : Nat} (h : NoneTo p l i) (hi : p (nthG l i) = false) : NoneTo p l (i + 1) := fun j hj => by
  by_cases hji : j = i
  · subst hji; exact hi
  · exact h j (by omega)
theorem any_here {p : Gp → Bool} {l : List Gp} {i : Nat} (hi : i < l.length) (h : p (nthG l i) = true) : l.any p = true := List.any_eq_true.2 ⟨_, nthG_mem hi, h⟩
theorem any_none {p : Gp → Bool} {l : List Gp} {i : Nat} (hi : ¬ i < l.length) (h : NoneTo p l i) : l.any p = false := by
  cases hb : l.any p with
  | false => rfl
  | true =>
    obtain ⟨g, hg, h2⟩ := List.any_eq_true.1 hb
    obtain ⟨j, hj, rfl⟩ := List.getElem_of_mem hg
    have h3 := nthG_get hj
    rw [List.getElem?_eq_getElem hj] at h3
    injection h3 with h3
    rw [h3, h j (by omega)] at h2
    cases h2
theorem fitG_y {a n : Int} {g : Gp} (h1 : decide (g.s ≤ a) = true) (h2 : decide (IntKind.i64.wrap (a + n) ≤ g.e) = true) : fitG a n g = true := by
  unfold fitG
  rw [show decide (a ≥ g.s) = true from h1, show decide (w64 (a + n) ≤ g.e) = true from h2]
  rfl
theorem fitG_n1 {a n : Int} {g : Gp} (h1 : decide (g.s ≤ a) = false) : fitG a n g = false := by
  unfold fitG
  rw [show decide (a ≥ g.s) = false from h1]
  rfl
theorem fitG_n2 {a n : Int} {g : Gp} (h2 : decide (IntKind.i64.wrap (a + n) ≤ g.e) = false) : fitG a n g = false := by
  unfold fitG
  rw [show decide (w64 (a + n) ≤ g.e) = false from h2, Bool.and_false]
theorem gapsL_len {l : List Ar} {m : Nat} (h : l.length ≤ m) : (gapsL l).length ≤ m + 1 := by
  unfold gapsL
  split
  · have := gapsE_len l; omega
  · simp
/-! ### The reference's -/
def freeK (s : List Pg) (q k : Nat) : Bool := (List.range k).all fun j => !(nthP s (q + j)).is
theorem freeK_iff (s : List Pg) (q k : Nat) : freeK s q k = true ↔ ∀ j, q ≤ j → j < q + k → (nthP s j).is = false := by
  unfold freeK
  rw [List.all_eq_true]
  constructor
  · intro h j h1 h2
    have := h (j - q) (List.mem_range.2 (by omega))
    rw [show q + (j - q) = j by omega] at this
    simpa using this
  · intro h j hj
    have := h (q + j) (by omega) (by have := List.mem_range.1 hj; omega)
    rw [this]
    rfl
def freeS (s : List Pg) (p n : Int) : Bool := if (decide (p < 16) || decide (n < 1) || decide (n > 496) || decide (p + n > 512)) = true then false else freeK s p.toNat n.toNat
section
variable {s : List Pg} {p n : Int}
end
theorem freeS_iff {l : List Ar} (hl : Ok l) {a n : Int} (ha : a % 4096 = 0) (h1 : 65536 ≤ a) (hn : 4096 ≤ n ∧ n ≤ 2031616 ∧ n % 4096 = 0) (h2 : a + n ≤ 2097152) : freeS (ofL l) (a / 4096) (n / 4096) = true ↔ FreeR l a (a + n) := by
  unfold freeS
  rw [if_neg (by simp; omega), freeK_iff]
  constructor
  · intro h x hx c1 c2 t ht
    have := h (x / 4096).toNat (by omega) (by omega)
    rw [(has_of hl (q := (x / 4096).toNat) (t := t) (by rw [show (4096 * ((x / 4096).toNat : Int)) = x by omega]; exact ht)).1] at this
    cases this
  · intro h j c1 c2
    cases hb : (nthP (ofL l) j).is with
    | false => rfl
    | true => exact absurd (of_has hl (q := j) (by omega) (by omega) hb) (h _ (by omega) (by omega) (by omega) _)
def chooseL (l : List Ar) (lo hi n : Int) (gr : Bool) : Int := if gr = true then (if (highN l lo hi n).2 = true then (highN l lo hi n).1 else -1) else (if (lowN l lo hi n).2 = true then (lowN l lo hi n).1 else -1)
theorem choose_no {l : List Ar} {lo hi n : Int} (hn : sizeG n = false) (gr : Bool) : chooseL l lo hi n gr = -1 := by
  unfold chooseL
  rw [low_no (.inl hn), high_no (.inl hn)]
  cases gr <;> rfl
end Go.Proofs.Ytbcicjmepojlnaa.Eng
/- The reference's Fits and Choose, and the program's; no condition but those typed. -/
namespace Go.Proofs.Ytbcicjmepojlnaa.Eng
open Go Go.RowKit
set_option autoImplicit false
set_option linter.unusedSimpArgs false
set_option linter.unusedVariables false
section
variable {l : List Ar} {a n : Int}
end
section
variable {l : List Ar} {lo hi n : Int} {gr : Bool} {k : Nat}
end
theorem good_fits {l : List Ar} (hl : Rt l) {lo hi n a : Int} (hn : sizeG n = true) (h64 : In64 n) (h : GoodA l lo hi n a) : fitsL l a n = true := by
  have hs := (sizeG_iff h64).1 hn
  exact (fits_iff hl (by have := h.l1; have := h.h1; unfold In64; omega) h64).2 ⟨hn, h.z, h.l1, h.h1, h.free⟩
theorem chooses {l : List Ar} (hl : Rt l) {lo hi n : Int} (h64 : In64 n) :
    ((lowN l lo hi n).2 = decide (0 ≤ chooseL l lo hi n false)) ∧ ((highN l lo hi n).2 = decide (0 ≤ chooseL l lo hi n true)) ∧ (lowN l lo hi n).2 = (highN l lo hi n).2 ∧
    ((lowN l lo hi n).2 = false → (lowN l lo hi n).1 = 0 ∧ (highN l lo hi n).1 = 0) ∧
    ((lowN l lo hi n).2 = true → (lowN l lo hi n).1 = chooseL l lo hi n false ∧ (highN l lo hi n).1 = chooseL l lo hi n true ∧ (lowN l lo hi n).1 ≤ (highN l lo hi n).1 ∧ fitsL l (lowN l lo hi n).1 n = true ∧ fitsL l (highN l lo hi n).1 n = true) := by
  cases hs : sizeG n with
  | false =>
    rw [choose_no hs, choose_no hs, low_no (.inl hs), high_no (.inl hs)]
    exact ⟨rfl, rfl, rfl, fun _ => ⟨rfl, rfl⟩, fun h => by cases h⟩
  | true =>
    obtain ⟨s1, s2⟩ := low_spec hl (lo := lo) (hi := hi) hs h64
    obtain ⟨t1, t2⟩ := high_spec hl (lo := lo) (hi := hi) hs h64
    unfold chooseL
    rw [if_neg (by simp), if_pos rfl]
    cases hb : (lowN l lo hi n).2 with
    | false =>
      cases hc : (highN l lo hi n).2 with
      | false =>
        rw [if_neg (by simp), if_neg (by simp)]
        exact ⟨rfl, rfl, rfl, fun _ => ⟨(s2 hb).1, (t2 hc).1⟩, fun h => by cases h⟩
      | true => exact absurd (t1 hc).1 ((s2 hb).2 _)
    | true =>
      cases hc : (highN l lo hi n).2 with
      | false => exact absurd (s1 hb).1 ((t2 hc).2 _)
      | true =>
        have g1 := (s1 hb).1
        have g2 := (t1 hc).1
        rw [if_pos rfl, if_pos rfl]
        have := g1.l1
        have := g2.l1
        exact ⟨(decide_eq_true (by omega)).symm, (decide_eq_true (by omega)).symm, rfl, (fun h => by cases h), fun _ => ⟨rfl, rfl, (s1 hb).2 _ g2, good_fits hl hs h64 g1, good_fits hl hs h64 g2⟩⟩
end Go.Proofs.Ytbcicjmepojlnaa.Eng
/- Contracts of functions (printed by genx.py of this work): what each hands back; condition: as its 'hside' says. -/
namespace Go.Proofs.Ytbcicjmepojlnaa.Eng
open Go Go.RowKit
set_option linter.unusedVariables false
set_option linter.unusedSimpArgs false
theorem b_fits : Bodied Try.prog 52 := bodied Try.func52 rfl (by decide)
def F_fits : FunX := fun κ avs => match avs with
  | [.lst l xl, .val (.c (.v (.int .i64 a))), .val (.c (.v (.int .i64 n)))] => some (κ _ (l.length ≤ 300000), (.val (.c (.v (.bool (κ _ (fitsL l a n)))))))
  | _ => none
set_option maxRecDepth 100000 in
set_option maxHeartbeats 4000000 in
theorem k_fits (l : List Ar) (a : Int) (n : Int) (Al : Option Addr) (cl : Nat) (hside : l.length ≤ 300000) (w : World) (hl : (Ent.rd Al 6 l.length (encL l)).holds w) :
    Calls Try.prog 52 #[.slice Al l.length cl, (SV.c (.v (.int .i64 a))).den, (SV.c (.v (.int .i64 n))).den] w fun e w' => ∃ v H', e = .returned v.den ∧ IsX (.val (.c (.v (.bool (fitsL l a n))))) v H' ∧ HSat w (fun _ => False) H' w' := by
  obtain ⟨κ, hκ⟩ : ∃ κ : Kp, κ = kid := ⟨_, rfl⟩
  have hH : HSat w (fun _ => False) (heapOf [(nilId, .rd none 1 0 []), (200000, .rd Al 6 (κ _ l.length) (κ _ (encL l)))]) w := by
    subst hκ
    refine HSat.reads fun p hp => ?_
    simp only [List.mem_cons, List.not_mem_nil, or_false] at hp
    rcases hp with rfl | rfl
    · exact ⟨_, _, _, _, rfl, nil_holds w⟩
    · exact ⟨_, _, _, _, rfl, hl⟩
  refine (callsP (n := 47) FTok [e_gsize hκ, e_gaps hκ] mixed [] Try.func52 rfl (by kernel_rfl) #[.slice Al l.length cl, (SV.c (.v (.int .i64 a))).den, (SV.c (.v (.int .i64 n))).den] [(0, .c (.sl 200000 Al (κ _ l.length) cl)), (1, .c (.v (.int .i64 a))), (2, .c (.v (.int .i64 n)))] _ w rfl [.tmp 6] rfl (by simp) (by subst hκ; simp [SV.den, C.den, kid]) hH (fun v H' => IsX (.val (.c (.v (.bool (κ _ (fitsL l a n)))))) v H') hκ ?_).mono ?_
  rotate_left
  · subst hκ; intro e w' h; exact h
  intro P' hP'
  cbv
  repeat' (first | refine And.intro ?_ ?_ | (intro _; cbv) | (refine tst_mk (fun h => ?_) (fun h => ?_) <;> cbv) | (refine LookX.nil ?_; cbv) | (refine LookX.auto hκ ?_; cbv))
  all_goals (try (show Side _; refine ⟨?_⟩; subst hκ; delta kid at *; first | exact rfl | exact trivial | exact ⟨rfl, rfl, .inl rfl⟩ | ((try dsimp only at *); (try simp only [setTo_len, noS_len, List.length_append, List.length_cons, List.length_nil, List.length_map, and_self, true_or, or_true, eq_self, true_and, and_true, Nat.zero_add, Nat.add_zero]); (first | done | omega); done)))
  all_goals (try (show IsX _ _ _; (clear hH; subst hκ; delta kid at *; (try dsimp only at *)); first | exact IsX.bool_ (fits_a (by with_reducible assumption)).symm | exact IsX.bool_ (fits_b (by with_reducible assumption)).symm | exact IsX.bool_ (fits_c (by with_reducible assumption)).symm | exact IsX.bool_ (fits_d (by with_reducible assumption)).symm))
  rename_i h1 h2 h3 A2 c2
  have hf : fitsL l a n = (gapsL l).any (fitG a n) := by subst hκ; exact fits_e h1 h2 h3 h
  clear h1 h2 h3 h
  refine loopP hP' FTok [] mixed [1, 2, 28, 29] (σ := {i : Nat // NoneTo (fitG a n) (gapsL l) i}) (fun q => [(30, .c (.v (.int .i64 (κ _ ((q.1 : Nat) : Int)))))]) (fun _ => [(28, .row A2 c2 42 2 (κ _ (gapsL l).length) (κ _ (encG (gapsL l))))]) (fun q => (gapsL l).length - q.1) ⟨0, fun j hj => absurd hj (Nat.not_lt_zero j)⟩ [28] ?_ (by decide) ?_ hκ ?_
  · cbv
    all_goals (subst hκ; delta kid; repeat' (first | exact rfl | exact trivial | refine And.intro ?_ ?_))
  · cbv
    all_goals (subst hκ; delta kid; repeat' (first | exact rfl | exact trivial | refine And.intro ?_ ?_))
  rintro ⟨i, hi⟩
  cbv
  refine tst_mk (fun h => ?_) (fun h => ?_)
  · have hx : i < (gapsL l).length := by subst hκ; delta kid at h; have h2 : (i : Int) < ((gapsL l).length : Int) := of_decide_eq_true h; omega
    have hgl := gapsL_len hside
    cbv
    repeat' (first | refine And.intro ?_ ?_ | (intro _; cbv) | (refine tst_mk (fun h => ?_) (fun h => ?_) <;> cbv) | (refine LookX.nil ?_; cbv) | (refine LookX.auto hκ ?_; cbv) | (refine LookN.mk' (x := [.v (.int .i64 (κ _ (nthG (gapsL l) i).s)), .v (.int .i64 (κ _ (nthG (gapsL l) i).e))]) (by subst hκ; delta kid at *; exact g_take hx) ?_; cbv))
    all_goals (try (show Side _; refine ⟨?_⟩; subst hκ; delta kid at *; first | exact rfl | exact trivial | exact ⟨rfl, rfl, .inl rfl⟩ | ((try dsimp only at *); (try simp only [setTo_len, noS_len, List.length_append, List.length_cons, List.length_nil, List.length_map, and_self, true_or, or_true, eq_self, true_and, and_true, Nat.zero_add, Nat.add_zero]); (first | done | omega); done)))
    all_goals (clear hH; subst hκ; delta kid at *; (try dsimp only at *))
    all_goals (try (exact ⟨g_ix hx⟩))
    · exact IsX.bool_ (hf.trans (any_here hx (fitG_y (by with_reducible assumption) (by with_reducible assumption)))).symm
    · refine ⟨⟨⟨i + 1, none_next hi (fitG_n2 (by with_reducible assumption))⟩, [28], (by show (gapsL l).length - (i + 1) < (gapsL l).length - i; omega), by decide, ?_, ?_⟩⟩
      all_goals repeat' (first | exact rfl | exact trivial | refine And.intro ?_ ?_ | exact congrArg (Value.int .i64) (nat_succ (by omega)) | exact congrArg (Value.int .i64) (large_next hx))
    · refine ⟨⟨⟨i + 1, none_next hi (fitG_n1 (by with_reducible assumption))⟩, [28], (by show (gapsL l).length - (i + 1) < (gapsL l).length - i; omega), by decide, ?_, ?_⟩⟩
      all_goals repeat' (first | exact rfl | exact trivial | refine And.intro ?_ ?_ | exact congrArg (Value.int .i64) (nat_succ (by omega)) | exact congrArg (Value.int .i64) (large_next hx))
  · have hx : ¬ i < (gapsL l).length := by subst hκ; delta kid at h; have h2 : ¬ (i : Int) < ((gapsL l).length : Int) := of_decide_eq_false h; omega
    cbv
    (clear hH; subst hκ; delta kid at *; (try dsimp only at *))
    exact IsX.bool_ (hf.trans (any_none hx hi)).symm
def e_fits {κ : Kp} (hκ : κ = kid) : ESpec Try.prog := fnES [.list, .flat, .flat] b_fits F_fits hκ fun avs p r hF hp => by
  unfold F_fits at hF
  split at hF
  case h_2 => cases hF
  rename_i l xl a n
  simp only [kid, Option.some.injEq, Prod.mk.injEq] at hF
  obtain ⟨rfl, rfl⟩ := hF
  refine ⟨trivial, fun vs w hR => ?_⟩
  obtain ⟨il, Al, cl, vs0, rfl, rfl, hl, hR⟩ := hR
  obtain ⟨vs1, rfl, hR⟩ := hR
  obtain ⟨vs2, rfl, hR⟩ := hR
  have hR' : vs2 = [] := hR
  subst hR'
  exact k_fits l a n Al cl hp w hl
end Go.Proofs.Ytbcicjmepojlnaa.Eng
/- The longest gap; no condition but those typed. -/
namespace Go.Proofs.Ytbcicjmepojlnaa.Eng
open Go Go.RowKit
set_option autoImplicit false
set_option linter.unusedSimpArgs false
set_option linter.unusedVariables false
end Go.Proofs.Ytbcicjmepojlnaa.Eng
/- mapping: the pure forms; no condition but those typed. -/
namespace Go.Proofs.Ytbcicjmepojlnaa.Eng
open Go Go.RowKit
set_option autoImplicit false
set_option linter.unusedSimpArgs false
set_option linter.unusedVariables false
def bitB (f m : Int) : Bool := bits .and .i64 f m != 0
def lenW (l : List Ar) (lo hi : Int) : Bool := decide ((0 : Int) < ((within2L l lo hi).length : Int))
def fixE (l : List Ar) (a n f : Int) : Int := if (rangeE a n != 0) = true then rangeE a n else if (bitB f 2 && lenW l (rangeLo a n) (rangeHi a n)) = true then 6 else 0
def fixV (l : List Ar) (a n f : Int) : Int := if (fixE l a n f != 0) = true then 0 else a
def pickB (l : List Ar) (n f : Int) : Bool := if bitB f 8 = true then (lowN l 65536 2097152 n).2 else (highN l 65536 2097152 n).2
def pickV (l : List Ar) (n f : Int) : Int := if bitB f 8 = true then (lowN l 65536 2097152 n).1 else (highN l 65536 2097152 n).1
def placeE (l : List Ar) (a n f : Int) : Int := if (!mayS l) = true then 1 else if bitB f 1 = true then fixE l a n f else if (a != 0 && fitsL l a n) = true then 0 else if pickB l n f = true then 0 else 5
def placeV (l : List Ar) (a n f : Int) : Int := if (!mayS l) = true then 0 else if bitB f 1 = true then fixV l a n f else if (a != 0 && fitsL l a n) = true then a else if pickB l n f = true then pickV l n f else 0
def askE (c : Cl) : Int := if (sizeE c.n != 0) = true then sizeE c.n else if (protE c.p != 0) = true then protE c.p else if (flagsE c.f 15 != 0) = true then flagsE c.f 15 else if (bits .and .i64 c.f 3 == 2) = true then 1 else backE c.b c.o (sizeV c.n)
def mapE (l : List Ar) (c : Cl) : Int := if (!mayS l) = true then 1 else if (askE c != 0) = true then askE c else placeE l c.a (sizeV c.n) c.f
def mapV (l : List Ar) (c : Cl) : Int := placeV l c.a (sizeV c.n) c.f
def mapA (l : List Ar) (c : Cl) : Ar := ⟨mapV l c, w64 (mapV l c + sizeV c.n), c.p, bitB c.f 4, c.b, c.o⟩
def mapL (l : List Ar) (c : Cl) : List Ar := if (mapE l c != 0) = true then l else keptL l (putL l (mapA l c))
def mapN (l : List Ar) (c : Cl) : An := if (mapE l c != 0) = true then errA (mapE l c) else keptN (putL l (mapA l c)) (mapV l c)
def unE (l : List Ar) (c : Cl) : Int := if (!mayS l) = true then 1 else rangeE c.a c.n
def unS (l : List Ar) (c : Cl) : List Ar := cutL l (rangeLo c.a c.n) (rangeHi c.a c.n)
def unL (l : List Ar) (c : Cl) : List Ar := if (unE l c != 0) = true then l else keptL l (unS l c)
def unN (l : List Ar) (c : Cl) : An := if (unE l c != 0) = true then errA (unE l c) else keptN (unS l c) 0
end Go.Proofs.Ytbcicjmepojlnaa.Eng
