/- Texts of this work, laid together: symbolic execution over the model, contracts of the program's functions, what they come to; conditions: as each says. -/
import Derived.Test.YtbcicjmepojlnaaGreatPkGAK
import Derived.Test.YtbcicjmepojlnaaGreatPkGAO
import Derived.Test.YtbcicjmepojlnaaGreatPkGAP
import Derived.Test.YtbcicjmepojlnaaGreatPkGAQ
/- What list.Covered and list.Pages come to, step by step; no condition but those typed. -/
namespace Go.Proofs.YtbcicjmepojlnaaGreat.Eng
open Go Go.RowKit
set_option autoImplicit false
set_option linter.unusedSimpArgs false
set_option linter.unusedVariables false
def covF : List Ar → Int → Int → Bool
  | [], at_, hi => decide (hi ≤ at_)
  | p :: r, at_, hi => if (p.s != at_) = true then false else covF r p.e hi
def atW (W : List Ar) (a0 : Int) : Nat → Int
  | 0 => a0
  | i + 1 => (nthA W i).e
theorem drop_cons {W : List Ar} {i : Nat} (h : i < W.length) : W.drop i = nthA W i :: W.drop (i + 1) := by
  have h2 := nthA_get h
  rw [List.getElem?_eq_getElem h] at h2
  injection h2 with h2
  rw [List.drop_eq_getElem_cons h, h2]
def coveredL (l : List Ar) (lo hi : Int) : Bool := if (!rightL l || decide (hi ≤ lo) || decide (lo < 65536) || decide (2097152 < hi)) = true then false else covF (withinL l lo hi) (floorA lo) hi
theorem cov_no {W : List Ar} {a0 hi : Int} {i : Nat} {r : Bool} (h : i < W.length) (he : covF (W.drop i) (atW W a0 i) hi = r) (hn : ((nthA W i).s != atW W a0 i) = true) : r = false := by
  rw [drop_cons h] at he
  unfold covF at he
  rw [if_pos hn] at he
  exact he.symm
theorem cov_next {W : List Ar} {a0 hi : Int} {i : Nat} {r : Bool} (h : i < W.length) (he : covF (W.drop i) (atW W a0 i) hi = r) (hn : ((nthA W i).s != atW W a0 i) = false) : covF (W.drop (i + 1)) (atW W a0 (i + 1)) hi = r := by
  rw [drop_cons h] at he
  unfold covF at he
  rw [if_neg (by rw [hn]; simp)] at he
  exact he
theorem cov_end {W : List Ar} {a0 hi : Int} {i : Nat} {r : Bool} (h : ¬ i < W.length) (he : covF (W.drop i) (atW W a0 i) hi = r) : decide (hi ≤ atW W a0 i) = r := by
  rw [List.drop_of_length_le (by omega)] at he
  exact he
theorem covered_a {l : List Ar} {lo hi : Int} (h : rightL l = false) : false = coveredL l lo hi := by
  unfold coveredL
  rw [h]
  rfl
theorem covered_b {l : List Ar} {lo hi : Int} (h : decide (hi ≤ lo) = true) : false = coveredL l lo hi := by
  unfold coveredL
  rw [h]
  simp
theorem covered_c {l : List Ar} {lo hi : Int} (h : decide (lo < 65536) = true) : false = coveredL l lo hi := by
  unfold coveredL
  rw [h]
  simp
theorem covered_d {l : List Ar} {lo hi : Int} (h : decide (2097152 < hi) = true) : false = coveredL l lo hi := by
  unfold coveredL
  rw [h]
  simp
theorem covered_y {l : List Ar} {lo hi : Int} (h1 : rightL l = true) (h2 : decide (hi ≤ lo) = false) (h3 : decide (lo < 65536) = false) (h4 : decide (2097152 < hi) = false) : covF (withinL l lo hi) (floorA lo) hi = coveredL l lo hi := by
  unfold coveredL
  rw [h1, h2, h3, h4]
  rfl
end Go.Proofs.YtbcicjmepojlnaaGreat.Eng
/- Contracts of functions (printed by genx.py of this work): what each hands back; condition: as its 'hside' says. -/
namespace Go.Proofs.YtbcicjmepojlnaaGreat.Eng
open Go Go.RowKit
set_option linter.unusedVariables false
set_option linter.unusedSimpArgs false
theorem b_covered : Bodied Tryz.prog 80 := bodied Tryz.func80 rfl (by decide)
def F_covered : FunX := fun κ avs => match avs with
  | [.lst l xl, .val (.c (.v (.int .i64 lo))), .val (.c (.v (.int .i64 hi)))] => some (κ _ (l.length ≤ 300000), (.val (.c (.v (.bool (κ _ (coveredL l lo hi)))))))
  | _ => none
set_option maxRecDepth 100000 in
set_option maxHeartbeats 4000000 in
theorem k_covered (l : List Ar) (lo : Int) (hi : Int) (Al : Option Addr) (cl : Nat) (hside : l.length ≤ 300000) (w : World) (hl : (Ent.rd Al 6 l.length (encL l)).holds w) :
    Calls Tryz.prog 80 #[.slice Al l.length cl, (SV.c (.v (.int .i64 lo))).den, (SV.c (.v (.int .i64 hi))).den] w fun e w' => ∃ v H', e = .returned v.den ∧ IsX (.val (.c (.v (.bool (coveredL l lo hi))))) v H' ∧ HSat w (fun _ => False) H' w' := by
  obtain ⟨κ, hκ⟩ : ∃ κ : Kp, κ = kid := ⟨_, rfl⟩
  have hH : HSat w (fun _ => False) (heapOf [(nilId, .rd none 1 0 []), (200000, .rd Al 6 (κ _ l.length) (κ _ (encL l)))]) w := by
    subst hκ
    refine HSat.reads fun p hp => ?_
    simp only [List.mem_cons, List.not_mem_nil, or_false] at hp
    rcases hp with rfl | rfl
    · exact ⟨_, _, _, _, rfl, nil_holds w⟩
    · exact ⟨_, _, _, _, rfl, hl⟩
  refine (callsP (n := 47) FTok [e_right hκ, e_lfloor hκ, e_within hκ] mixed [] Tryz.func80 rfl (by kernel_rfl) #[.slice Al l.length cl, (SV.c (.v (.int .i64 lo))).den, (SV.c (.v (.int .i64 hi))).den] [(0, .c (.sl 200000 Al (κ _ l.length) cl)), (1, .c (.v (.int .i64 lo))), (2, .c (.v (.int .i64 hi)))] _ w rfl [.tmp 6] rfl (by simp) (by subst hκ; simp [SV.den, C.den, kid]) hH (fun v H' => IsX (.val (.c (.v (.bool (κ _ (coveredL l lo hi)))))) v H') hκ ?_).mono ?_
  rotate_left
  · subst hκ; intro e w' h; exact h
  intro P' hP'
  cbv
  repeat' (first | refine And.intro ?_ ?_ | (intro _; cbv) | (refine tst_mk (fun h => ?_) (fun h => ?_) <;> cbv) | (refine LookX.nil ?_; cbv) | (refine LookX.auto hκ ?_; cbv))
  all_goals (try (show Side _; refine ⟨?_⟩; subst hκ; delta kid at *; first | exact rfl | exact trivial | exact ⟨rfl, rfl, .inl rfl⟩ | (refine ⟨rfl, ?_⟩; omega) | omega))
  all_goals (try (show IsX _ _ _; subst hκ; delta kid at *; first | exact IsX.val_ (congrArg Value.bool (covered_a (by with_reducible assumption))) | exact IsX.val_ (congrArg Value.bool (covered_b (by with_reducible assumption))) | exact IsX.val_ (congrArg Value.bool (covered_c (by with_reducible assumption))) | exact IsX.val_ (congrArg Value.bool (covered_d (by with_reducible assumption)))))
  rename_i A3 c3
  refine loopP hP' FTok [] mixed [2, 31, 32] (σ := {i : Nat // covF ((withinL l lo hi).drop i) (atW (withinL l lo hi) (floorA lo) i) hi = coveredL l lo hi}) (fun q => [(7, .c (.v (.int .i64 (κ _ (atW (withinL l lo hi) (floorA lo) q.1))))), (33, .c (.v (.int .i64 (κ _ ((q.1 : Nat) : Int)))))]) (fun _ => [(31, .row A3 c3 49 6 (κ _ (κ _ (withinL (κ _ l) lo hi)).length) (κ _ (encL (κ _ (withinL (κ _ l) lo hi)))))]) (fun q => (withinL l lo hi).length - q.1) ⟨0, by subst hκ; delta kid at *; exact covered_y (by with_reducible assumption) (by with_reducible assumption) (by with_reducible assumption) (by with_reducible assumption)⟩ [31] ?_ (by decide) ?_ hκ ?_
  · cbv
    all_goals (subst hκ; delta kid; repeat' (first | exact rfl | exact trivial | refine And.intro ?_ ?_))
  · cbv
    all_goals (subst hκ; delta kid; repeat' (first | exact rfl | exact trivial | refine And.intro ?_ ?_))
  rintro ⟨i, hi2⟩
  cbv
  refine tst_mk (fun h => ?_) (fun h => ?_)
  · have hx : i < (withinL l lo hi).length := by subst hκ; delta kid at h; have h2 : (i : Int) < ((withinL l lo hi).length : Int) := of_decide_eq_true h; omega
    cbv
    repeat' (first | refine And.intro ?_ ?_ | (intro _; cbv) | (refine tst_mk (fun h => ?_) (fun h => ?_) <;> cbv) | (refine LookN.mk' (x := [.v (.int .i64 (κ _ (nthA (withinL l lo hi) i).s)), .v (.int .i64 (κ _ (nthA (withinL l lo hi) i).e)), .v (.int .i64 (κ _ (nthA (withinL l lo hi) i).p)), .v (.bool (κ _ (nthA (withinL l lo hi) i).sh)), .v (.int .i64 (κ _ (nthA (withinL l lo hi) i).b)), .v (.int .i64 (κ _ (nthA (withinL l lo hi) i).o))]) (by subst hκ; delta kid at *; exact la_take hx) ?_; cbv))
    all_goals (try (show Side _; refine ⟨?_⟩; subst hκ; delta kid at *; first | exact rfl | exact trivial | exact ⟨rfl, rfl, .inl rfl⟩ | exact la_ix hx | (refine ⟨rfl, ?_⟩; omega) | omega))
    all_goals (clear hH; subst hκ; delta kid at *; (try dsimp only at *))
    · exact IsX.val_ (congrArg Value.bool (cov_no hx hi2 (by with_reducible assumption)).symm)
    · refine ⟨⟨⟨i + 1, cov_next hx hi2 (by with_reducible assumption)⟩, [31], (by show (withinL l lo hi).length - (i + 1) < (withinL l lo hi).length - i; omega), by decide, ?_, ?_⟩⟩
      all_goals repeat' (first | exact rfl | exact trivial | refine And.intro ?_ ?_ | exact congrArg (Value.int .i64) (nat_succ (by have := within_le l lo hi; omega)))
  · have hx : ¬ i < (withinL l lo hi).length := by subst hκ; delta kid at h; have h2 : ¬ (i : Int) < ((withinL l lo hi).length : Int) := of_decide_eq_false h; omega
    cbv
    subst hκ
    delta kid at *
    exact IsX.val_ (congrArg Value.bool (cov_end hx hi2))
def e_covered {κ : Kp} (hκ : κ = kid) : ESpec Tryz.prog := fnES [.list, .flat, .flat] b_covered F_covered hκ fun avs p r hF hp => by
  unfold F_covered at hF
  split at hF
  case h_2 => cases hF
  rename_i l xl lo hi
  simp only [kid, Option.some.injEq, Prod.mk.injEq] at hF
  obtain ⟨rfl, rfl⟩ := hF
  refine ⟨trivial, fun vs w hR => ?_⟩
  obtain ⟨il, Al, cl, vs0, rfl, rfl, hl, hR⟩ := hR
  obtain ⟨vs1, rfl, hR⟩ := hR
  obtain ⟨vs2, rfl, hR⟩ := hR
  have hR' : vs2 = [] := hR
  subst hR'
  exact k_covered l lo hi Al cl hp w hl
end Go.Proofs.YtbcicjmepojlnaaGreat.Eng
/- Protecting and faults, in plain words; no condition but those typed. -/
namespace Go.Proofs.YtbcicjmepojlnaaGreat.Eng
open Go Go.RowKit
set_option autoImplicit false
set_option linter.unusedSimpArgs false
set_option linter.unusedVariables false
def wrE (l : List Ar) (c : Cl) : Int := if (!mayS l) = true then 1 else if (rangeE c.a c.n == 0) = true then (if (protE c.p == 0) = true then (if coveredL l (rangeLo c.a c.n) (rangeHi c.a c.n) = true then protE c.p else 7) else protE c.p) else rangeE c.a c.n
def wrX (l : List Ar) (x : Int) : Int := if (!mayS l) = true then 0 else x
def protS (l : List Ar) (c : Cl) : List Ar := setL l (wrX l (rangeLo c.a c.n)) (wrX l (rangeHi c.a c.n)) c.p
def protL (l : List Ar) (c : Cl) : List Ar := if (wrE l c != 0) = true then l else keptL l (protS l c)
def protN (l : List Ar) (c : Cl) : An := if (wrE l c != 0) = true then errA (wrE l c) else keptN (protS l c) 0
def faultN (l : List Ar) (c : Cl) : An := if (!mayS l || decide (c.p < 1) || decide (c.p > 7)) = true then errA 1 else if (!foundL l c.a) = true then errA 7 else if (!mayA (findL l c.a) c.p) = true then errA 8 else ⟨0, 0, attrA (findL l c.a) c.a⟩
end Go.Proofs.YtbcicjmepojlnaaGreat.Eng
/- Lists of areas by their pages: right lists are told by them; cuts, joins; no condition but those typed. -/
namespace Go.Proofs.YtbcicjmepojlnaaGreat.Eng
open Go Go.RowKit
set_option autoImplicit false
set_option linter.unusedSimpArgs false
set_option linter.unusedVariables false
def offP (a : Ar) (x : Int) : Int := if a.b = 0 then 0 else a.o + x - a.s
def ext (a : Ar) (x : Int) : At := ⟨a.p, a.sh, a.b, offP a x⟩
def inA (a : Ar) (x : Int) : Prop := a.s ≤ x ∧ x < a.e
def Has (l : List Ar) (x : Int) (t : At) : Prop := ∃ a ∈ l, inA a x ∧ ext a x = t
def Fm (l : List Ar) : Prop := ∀ a ∈ l, formed a = true
def Ok (l : List Ar) : Prop := Fm l ∧ l.Pairwise fun a b => a.e ≤ b.s
def Rt (l : List Ar) : Prop := Fm l ∧ l.Pairwise fun a b => a.e ≤ b.s ∧ goesA a b = false
def Touch (x lo hi : Int) : Prop := lo < hi ∧ lo < x + 4096 ∧ x < hi
theorem Rt.ok {l : List Ar} (h : Rt l) : Ok l := ⟨h.1, h.2.imp fun h => h.1⟩
theorem Has.nil {x : Int} {t : At} : ¬ Has [] x t := fun ⟨a, h, _⟩ => by cases h
theorem has_app (l k : List Ar) (x : Int) (t : At) : Has (l ++ k) x t ↔ Has l x t ∨ Has k x t := by
  unfold Has
  constructor
  · rintro ⟨a, ha, h⟩
    rcases List.mem_append.1 ha with h1 | h1
    · exact .inl ⟨a, h1, h⟩
    · exact .inr ⟨a, h1, h⟩
  · rintro (⟨a, ha, h⟩ | ⟨a, ha, h⟩)
    · exact ⟨a, List.mem_append.2 (.inl ha), h⟩
    · exact ⟨a, List.mem_append.2 (.inr ha), h⟩
theorem has_cons (a : Ar) (l : List Ar) (x : Int) (t : At) : Has (a :: l) x t ↔ (inA a x ∧ ext a x = t) ∨ Has l x t := by
  unfold Has
  constructor
  · rintro ⟨b, hb, h⟩
    rcases List.mem_cons.1 hb with rfl | h1
    · exact .inl h
    · exact .inr ⟨b, h1, h⟩
  · rintro (h | ⟨b, hb, h⟩)
    · exact ⟨a, List.mem_cons_self .., h⟩
    · exact ⟨b, List.mem_cons_of_mem _ hb, h⟩
theorem has_one (a : Ar) (x : Int) (t : At) : Has [a] x t ↔ inA a x ∧ ext a x = t := by
  rw [has_cons]
  exact ⟨fun h => h.elim id fun h => (Has.nil h).elim, .inl⟩
theorem has_flat (f : Ar → List Ar) (l : List Ar) (x : Int) (t : At) : Has (l.flatMap f) x t ↔ ∃ a ∈ l, Has (f a) x t := by
  unfold Has
  constructor
  · rintro ⟨a, ha, h⟩
    obtain ⟨b, hb, h2⟩ := List.mem_flatMap.1 ha
    exact ⟨b, hb, a, h2, h⟩
  · rintro ⟨b, hb, a, h2, h⟩
    exact ⟨a, List.mem_flatMap.2 ⟨b, hb, h2⟩, h⟩
/-! ### Areas -/
structure Fo (a : Ar) : Prop where
  s0 : a.s % 4096 = 0
  e0 : a.e % 4096 = 0
  lo : 65536 ≤ a.s
  hi : a.e ≤ 2097152
  lt : a.s < a.e
  p0 : 0 ≤ a.p
  p7 : a.p ≤ 7
  b0 : 0 ≤ a.b
  b9 : a.b ≤ 9
  oz : a.b = 0 → a.o = 0
  om : a.b ≠ 0 → a.o % 4096 = 0 ∧ 0 ≤ a.o ∧ a.o ≤ 1099511627776 - (a.e - a.s)
theorem fo {a : Ar} : formed a = true ↔ Fo a := by
  rw [formed_iff]
  exact ⟨fun ⟨h1, h2, h3, h4, h5, h6, h7, h8, h9, h10, h11⟩ => ⟨h1, h2, h3, h4, h5, h6, h7, h8, h9, h10, h11⟩, fun ⟨h1, h2, h3, h4, h5, h6, h7, h8, h9, h10, h11⟩ => ⟨h1, h2, h3, h4, h5, h6, h7, h8, h9, h10, h11⟩⟩
theorem offP_s {a : Ar} (h : Fo a) : offP a a.s = a.o := by
  unfold offP
  split
  · rename_i hb; exact (h.oz hb).symm
  · omega
theorem offP_eq {a : Ar} (h : Fo a) {x : Int} (h1 : 0 ≤ x) (h2 : x ≤ 2097152) : offA a x = offP a x := offA_eq (fo.2 h) h1 h2
theorem goes_ext {a b : Ar} : goesA a b = true ↔ Fo a ∧ Fo b ∧ a.e = b.s ∧ ext a a.e = ext b b.s := by
  rw [goes_iff]
  simp only [fo]
  unfold ext
  simp only [At.mk.injEq]
  constructor
  · rintro ⟨h1, h2, h3, h4, h5, h6, h7⟩
    refine ⟨h1, h2, h3, h4, h5, h6, ?_⟩
    rw [offP_s h2, h7]
    rfl
  · rintro ⟨h1, h2, h3, h4, h5, h6, h7⟩
    refine ⟨h1, h2, h3, h4, h5, h6, ?_⟩
    rw [offP_s h2] at h7
    exact h7.symm
theorem ext_all {a b : Ar} {x y : Int} (h : ext a x = ext b x) : ext a y = ext b y := by
  unfold ext at h ⊢
  simp only [At.mk.injEq] at h ⊢
  obtain ⟨h1, h2, h3, h4⟩ := h
  refine ⟨h1, h2, h3, ?_⟩
  unfold offP at h4 ⊢
  rw [h3] at h4 ⊢
  split at h4 <;> split <;> first | omega | contradiction
theorem ar_ext {a b : Ar} (ha : Fo a) (hb : Fo b) (h1 : a.s = b.s) (h2 : a.e = b.e) {x : Int} (h : ext a x = ext b x) : a = b := by
  have h' := ext_all (y := a.s) h
  unfold ext at h'
  simp only [At.mk.injEq] at h'
  obtain ⟨e1, e2, e3, e4⟩ := h'
  rw [offP_s ha, h1, offP_s hb] at e4
  cases a; cases b
  simp_all
theorem formed_at {l : List Ar} (h : Fm l) {i : Nat} (hi : i < l.length) : Fo (nthA l i) := by
  have h1 := nthA_get hi
  rw [List.getElem?_eq_getElem hi] at h1
  injection h1 with h1
  rw [← h1]
  exact fo.1 (h _ (List.getElem_mem hi))
theorem nthA_elem {l : List Ar} {i : Nat} (hi : i < l.length) : nthA l i = l[i] := by
  have h1 := nthA_get hi
  rw [List.getElem?_eq_getElem hi] at h1
  injection h1 with h1
  exact h1.symm
theorem rt_of {l : List Ar} (h : rightL l = true) : Rt l := by
  have hb : ∀ i : Nat, i < l.length → badAt l i = false := fun i hi => right_at h hi
  have hf : ∀ i : Nat, i < l.length → Fo (nthA l i) := fun i hi => by
    have := hb i hi
    cases hc : formed (nthA l i) with
    | true => exact fo.1 hc
    | false => rw [bad_a hc] at this; cases this
  have hn : ∀ i : Nat, i + 1 < l.length → (nthA l i).e ≤ (nthA l (i + 1)).s ∧ goesA (nthA l i) (nthA l (i + 1)) = false := fun i hi => by
    have := hb (i + 1) hi
    unfold badAt at this
    rw [fo.2 (hf _ hi), show i + 1 - 1 = i from rfl, show decide (0 < i + 1) = true by simp] at this
    simp only [Bool.not_true, Bool.false_or, Bool.true_and, Bool.or_eq_false_iff, decide_eq_false_iff_not] at this
    exact ⟨by omega, this.2⟩
  have key : ∀ (d i : Nat), i + 1 + d < l.length → (nthA l i).e ≤ (nthA l (i + 1 + d)).s ∧ goesA (nthA l i) (nthA l (i + 1 + d)) = false := by
    intro d
    induction d with
    | zero => intro i hi; exact hn i hi
    | succ d ih =>
      intro i hi
      have h1 := (ih i (by omega)).1
      have h2 := (hn (i + 1 + d) (by omega)).1
      have h3 := (hf (i + 1 + d) (by omega)).lt
      have h4 : (nthA l i).e < (nthA l (i + 1 + (d + 1))).s := by
        rw [show i + 1 + (d + 1) = i + 1 + d + 1 by omega]
        omega
      refine ⟨by omega, ?_⟩
      cases hg : goesA (nthA l i) (nthA l (i + 1 + (d + 1))) with
      | false => rfl
      | true => have := (goes_ext.1 hg).2.2.1; omega
  refine ⟨fun a ha => ?_, ?_⟩
  · obtain ⟨i, hi, rfl⟩ := List.getElem_of_mem ha
    rw [← nthA_elem hi]
    exact fo.2 (hf i hi)
  · rw [List.pairwise_iff_getElem]
    intro i j hi hj hij
    have := key (j - i - 1) i (by omega)
    rw [show i + 1 + (j - i - 1) = j by omega, nthA_elem hi, nthA_elem hj] at this
    exact this
theorem of_rt {l : List Ar} (h : Rt l) : rightL l = true := by
  refine right_yes fun j hj => ?_
  have hf := fo.2 (formed_at h.1 hj)
  unfold badAt
  rw [hf]
  by_cases h0 : 0 < j
  · have := (List.pairwise_iff_getElem.1 h.2) (j - 1) j (by omega) hj (by omega)
    rw [← nthA_elem, ← nthA_elem] at this
    rw [this.2]
    have h2 : decide ((nthA l (j - 1)).e > (nthA l j).s) = false := by simp; omega
    rw [h2]
    simp
  · have : decide (0 < j) = false := by simp; omega
    rw [this]
    rfl
theorem rt_iff {l : List Ar} : rightL l = true ↔ Rt l := ⟨rt_of, of_rt⟩
/-! ### Right lists are told by their pages -/
theorem has_lo {l : List Ar} {b : Int} (h : ∀ a ∈ l, b ≤ a.s) {x : Int} {t : At} (hx : Has l x t) : b ≤ x := by
  obtain ⟨a, ha, h1, _⟩ := hx
  have := h a ha
  have := h1.1
  omega
theorem rt_ext : ∀ {l k : List Ar}, Rt l → Rt k → (∀ x t, x % 4096 = 0 → (Has l x t ↔ Has k x t)) → l = k
  | [], [], _, _, _ => rfl
  | [], b :: k, _, hk, h => by
    have fb := fo.1 (hk.1 b (List.mem_cons_self ..))
    exact (Has.nil ((h b.s (ext b b.s) fb.s0).2 ((has_cons ..).2 (.inl ⟨⟨Int.le_refl _, fb.lt⟩, rfl⟩)))).elim
  | a :: l, [], hl, _, h => by
    have fa := fo.1 (hl.1 a (List.mem_cons_self ..))
    exact (Has.nil ((h a.s (ext a a.s) fa.s0).1 ((has_cons ..).2 (.inl ⟨⟨Int.le_refl _, fa.lt⟩, rfl⟩)))).elim
  | a :: l, b :: k, hl, hk, h => by
    have fa := fo.1 (hl.1 a (List.mem_cons_self ..))
    have fb := fo.1 (hk.1 b (List.mem_cons_self ..))
    have pl := List.pairwise_cons.1 hl.2
    have pk := List.pairwise_cons.1 hk.2
    have key : ∀ (a : Ar) (l : List Ar) (b : Ar) (k : List Ar), Fo a → Fo b → (∀ c ∈ k, b.e ≤ c.s) → (∀ x t, x % 4096 = 0 → Has (a :: l) x t → Has (b :: k) x t) → b.s ≤ a.s := by
      intro a l b k fa fb pk h
      have h1 := h a.s (ext a a.s) fa.s0 ((has_cons ..).2 (.inl ⟨⟨Int.le_refl _, fa.lt⟩, rfl⟩))
      rcases (has_cons ..).1 h1 with h2 | h2
      · exact h2.1.1
      · have := has_lo (b := b.e) pk h2
        have := fb.lt
        omega
    have hs : a.s = b.s := by
      have h1 := key a l b k fa fb (fun c hc => (pk.1 c hc).1) fun x t hx => (h x t hx).1
      have h2 := key b k a l fb fa (fun c hc => (pl.1 c hc).1) fun x t hx => (h x t hx).2
      omega
    have hx : ext a a.s = ext b a.s := by
      have h1 := (h a.s (ext a a.s) fa.s0).1 ((has_cons ..).2 (.inl ⟨⟨Int.le_refl _, fa.lt⟩, rfl⟩))
      rcases (has_cons ..).1 h1 with h2 | h2
      · exact h2.2.symm
      · have := has_lo (b := b.e) (fun c hc => (pk.1 c hc).1) h2
        have := fb.lt
        omega
    have key2 : ∀ (a : Ar) (l : List Ar) (b : Ar) (k : List Ar), Fo a → Fo b → Fm l → (∀ c ∈ l, a.e ≤ c.s ∧ goesA a c = false) → a.s = b.s → ext a a.s = ext b a.s → (∀ x t, x % 4096 = 0 → Has (b :: k) x t → Has (a :: l) x t) → b.e ≤ a.e := by
      intro a l b k fa fb fl pl hs hx h
      rcases (by omega : b.e ≤ a.e ∨ a.e < b.e) with h0 | h0
      · exact h0
      · exfalso
        have h1 := h a.e (ext b a.e) fa.e0 ((has_cons ..).2 (.inl ⟨⟨by have := fa.lt; omega, h0⟩, rfl⟩))
        rcases (has_cons ..).1 h1 with h2 | h2
        · have := h2.1.2; omega
        · obtain ⟨c, hc, h3, h4⟩ := h2
          obtain ⟨h5, h6⟩ := pl c hc
          have h7 : c.s = a.e := by have := h3.1; omega
          have : goesA a c = true := goes_ext.2 ⟨fa, fo.1 (fl c hc), h7.symm, by rw [h7, h4]; exact ext_all hx⟩
          rw [h6] at this
          cases this
    have he : a.e = b.e := by
      have h1 := key2 a l b k fa fb (fun c hc => hl.1 c (List.mem_cons_of_mem _ hc)) pl.1 hs hx fun x t hx => (h x t hx).2
      have h2 := key2 b k a l fb fa (fun c hc => hk.1 c (List.mem_cons_of_mem _ hc)) pk.1 hs.symm (by rw [← hs]; exact hx.symm) fun x t hx => (h x t hx).1
      omega
    have hab : a = b := ar_ext fa fb hs he hx
    subst hab
    rw [rt_ext (l := l) (k := k) ⟨fun c hc => hl.1 c (List.mem_cons_of_mem _ hc), pl.2⟩ ⟨fun c hc => hk.1 c (List.mem_cons_of_mem _ hc), pk.2⟩ fun x t hx0 => ?_]
    have h1 := h x t hx0
    rw [has_cons, has_cons] at h1
    constructor
    · intro h2
      rcases h1.1 (.inr h2) with h3 | h3
      · have := has_lo (b := a.e) (fun c hc => (pl.1 c hc).1) h2
        have := h3.1.2
        omega
      · exact h3
    · intro h2
      rcases h1.2 (.inr h2) with h3 | h3
      · have := has_lo (b := a.e) (fun c hc => (pk.1 c hc).1) h2
        have := h3.1.2
        omega
      · exact h3
theorem has_fun : ∀ {l : List Ar}, Ok l → ∀ {x : Int} {t t' : At}, Has l x t → Has l x t' → t = t'
  | [], _, _, _, _, h, _ => (Has.nil h).elim
  | a :: l, hl, x, t, t', h, h' => by
    have pl := List.pairwise_cons.1 hl.2
    rcases (has_cons ..).1 h with h1 | h1
    · rcases (has_cons ..).1 h' with h2 | h2
      · exact h1.2.symm.trans h2.2
      · have := has_lo (b := a.e) pl.1 h2
        have := h1.1.2
        omega
    · rcases (has_cons ..).1 h' with h2 | h2
      · have := has_lo (b := a.e) pl.1 h1
        have := h2.1.2
        omega
      · exact has_fun ⟨fun c hc => hl.1 c (List.mem_cons_of_mem _ hc), pl.2⟩ h1 h2
theorem has_range {l : List Ar} (h : Fm l) {x : Int} {t : At} (hx : Has l x t) : 65536 ≤ x ∧ x < 2097152 := by
  obtain ⟨a, ha, h1, _⟩ := hx
  have f := fo.1 (h a ha)
  have := f.lo
  have := f.hi
  have := h1.1
  have := h1.2
  omega
/-! ### Joining -/
theorem join_ext {z a : Ar} (hg : goesA z a = true) : joinsA z a = true ∧ Fo (joinA z a) ∧ (joinA z a).s = z.s ∧ (joinA z a).e = a.e ∧ (∀ x, ext (joinA z a) x = ext z x) ∧ ∀ x, ext a x = ext z x := by
  obtain ⟨h1, h2, h3⟩ := joins_goes hg
  refine ⟨h1, by rw [h3]; exact fo.1 h2, by rw [h3], by rw [h3], fun x => by rw [h3]; rfl, fun x => ?_⟩
  obtain ⟨_, _, e, h4⟩ := goes_ext.1 hg
  rw [e] at h4
  exact ext_all h4.symm
theorem joined_fold : ∀ (l out : List Ar), Rt out → Ok l → (∀ z ∈ out, ∀ a ∈ l, z.e ≤ a.s) → Rt (l.foldl stepJ out) ∧ ∀ x t, Has (l.foldl stepJ out) x t ↔ Has out x t ∨ Has l x t
  | [], out, ho, _, _ => ⟨ho, fun x t => ⟨.inl, fun h => h.elim id fun h => (Has.nil h).elim⟩⟩
  | a :: l, out, ho, hl, hz => by
    have pl := List.pairwise_cons.1 hl.2
    have fa := fo.1 (hl.1 a (List.mem_cons_self ..))
    have hl' : Ok l := ⟨fun c hc => hl.1 c (List.mem_cons_of_mem _ hc), pl.2⟩
    have key : Rt (stepJ out a) ∧ (∀ z ∈ stepJ out a, ∀ b ∈ l, z.e ≤ b.s) ∧ ∀ x t, Has (stepJ out a) x t ↔ Has out x t ∨ (inA a x ∧ ext a x = t) := by
      unfold stepJ
      split
      · rename_i hn
        have : out = [] := List.getLast?_eq_none_iff.1 hn
        subst this
        refine ⟨⟨fun c hc => ?_, List.pairwise_singleton _ _⟩, fun z hz b hb => ?_, fun x t => ?_⟩
        · rw [List.mem_singleton.1 hc]; exact fo.2 fa
        · rw [List.mem_singleton.1 hz]; exact pl.1 b hb
        · rw [has_one]
          exact ⟨.inr, fun h => h.elim (fun h => (Has.nil h).elim) id⟩
      · rename_i z hs
        obtain ⟨d, hd⟩ : ∃ d, out = d ++ [z] := by
          have := List.getLast?_eq_some_iff.1 hs
          exact this
        subst hd
        have hdl : (d ++ [z]).dropLast = d := by simp
        have pz := List.pairwise_append.1 ho.2
        have fz := fo.1 (ho.1 z (List.mem_append.2 (.inr (List.mem_singleton.2 rfl))))
        have hza := hz z (List.mem_append.2 (.inr (List.mem_singleton.2 rfl))) a (List.mem_cons_self ..)
        split
        · rename_i hj
          rw [joins_eq] at hj
          obtain ⟨_, fj, js, je, jx, ja⟩ := join_ext hj
          have ze := (goes_ext.1 hj).2.2.1
          rw [hdl]
          refine ⟨⟨fun c hc => ?_, List.pairwise_append.2 ⟨pz.1, List.pairwise_singleton _ _, fun y hy c hc => ?_⟩⟩, fun y hy b hb => ?_, fun x t => ?_⟩
          · rcases List.mem_append.1 hc with h | h
            · exact ho.1 c (List.mem_append.2 (.inl h))
            · rw [List.mem_singleton.1 h]; exact fo.2 fj
          · rw [List.mem_singleton.1 hc]
            obtain ⟨h1, h2⟩ := pz.2.2 y hy z (List.mem_singleton.2 rfl)
            refine ⟨by omega, ?_⟩
            cases hg : goesA y (joinA z a) with
            | false => rfl
            | true =>
              obtain ⟨g1, _, g3, g4⟩ := goes_ext.1 hg
              have : goesA y z = true := goes_ext.2 ⟨g1, fz, by omega, by rw [g4, jx, js]⟩
              rw [h2] at this
              cases this
          · rcases List.mem_append.1 hy with h | h
            · exact hz y (List.mem_append.2 (.inl h)) b (List.mem_cons_of_mem _ hb)
            · rw [List.mem_singleton.1 h, je]; exact pl.1 b hb
          · rw [has_app, has_app, has_one, has_one, jx]
            unfold inA
            rw [js, je, ja]
            have := fz.lt
            have := fa.lt
            constructor
            · rintro (h | ⟨⟨h1, h2⟩, h3⟩)
              · exact .inl (.inl h)
              · rcases (by omega : x < z.e ∨ a.s ≤ x) with h4 | h4
                · exact .inl (.inr ⟨⟨h1, h4⟩, h3⟩)
                · exact .inr ⟨⟨h4, h2⟩, h3⟩
            · rintro ((h | ⟨⟨h1, h2⟩, h3⟩) | ⟨⟨h1, h2⟩, h3⟩)
              · exact .inl h
              · exact .inr ⟨⟨h1, by omega⟩, h3⟩
              · exact .inr ⟨⟨by omega, h2⟩, h3⟩
        · rename_i hj
          rw [joins_eq] at hj
          have hj' : goesA z a = false := by simpa using hj
          refine ⟨⟨fun c hc => ?_, List.pairwise_append.2 ⟨ho.2, List.pairwise_singleton _ _, fun y hy c hc => ?_⟩⟩, fun y hy b hb => ?_, fun x t => ?_⟩
          · rcases List.mem_append.1 hc with h | h
            · exact ho.1 c h
            · rw [List.mem_singleton.1 h]; exact fo.2 fa
          · rw [List.mem_singleton.1 hc]
            refine ⟨hz y hy a (List.mem_cons_self ..), ?_⟩
            rcases List.mem_append.1 hy with h | h
            · obtain ⟨h1, _⟩ := pz.2.2 y h z (List.mem_singleton.2 rfl)
              have := fz.lt
              cases hg : goesA y a with
              | false => rfl
              | true => have := (goes_ext.1 hg).2.2.1; omega
            · rw [List.mem_singleton.1 h]; exact hj'
          · rcases List.mem_append.1 hy with h | h
            · exact hz y h b (List.mem_cons_of_mem _ hb)
            · rw [List.mem_singleton.1 h]; exact pl.1 b hb
          · rw [has_app _ [a], has_one]
    obtain ⟨k1, k2, k3⟩ := key
    obtain ⟨r1, r2⟩ := joined_fold l (stepJ out a) k1 hl' k2
    refine ⟨r1, fun x t => ?_⟩
    rw [List.foldl_cons, r2, k3, has_cons, or_assoc]
theorem joined_rt {l : List Ar} (h : Ok l) : Rt (joinedL l) ∧ ∀ x t, Has (joinedL l) x t ↔ Has l x t := by
  obtain ⟨h1, h2⟩ := joined_fold l [] ⟨fun a h => (by cases h), List.Pairwise.nil⟩ h (fun z h => by cases h)
  exact ⟨h1, fun x t => (h2 x t).trans ⟨fun h => h.elim (fun h => (Has.nil h).elim) id, .inr⟩⟩
end Go.Proofs.YtbcicjmepojlnaaGreat.Eng
/- Pages of lists, and lists of pages, step by step, as the reference's loops have them; no condition but those typed. -/
namespace Go.Proofs.YtbcicjmepojlnaaGreat.Eng
open Go Go.RowKit
set_option autoImplicit false
set_option linter.unusedSimpArgs false
set_option linter.unusedVariables false
/-! ### Cells -/
theorem page_is {s : List Pg} {i : Nat} (h : i < s.length) : (encS s)[i * 5 + 0]? = some (.v (.bool (nthP s i).is)) := enc_get encP_len s i _ 0 (nthP_get h) (by decide)
theorem page_attr {s : List Pg} {i : Nat} (h : i < s.length) : takeM (encS s) (i * 5 + 1) 4 = some [.v (.int .i64 (nthP s i).t.p), .v (.bool (nthP s i).t.sh), .v (.int .i64 (nthP s i).t.b), .v (.int .i64 (nthP s i).t.o)] := by
  have hl := encS_len s
  have hg := fun j hj => enc_get encP_len s i _ j (nthP_get h) hj
  unfold takeM
  rw [if_pos (by rw [hl]; omega)]
  congr 1
  apply List.ext_getElem?
  intro j
  rw [getElem?_drop_take]
  split
  · rename_i hj
    have := hg (1 + j) (by omega)
    rw [show i * 5 + 1 + j = i * 5 + (1 + j) by omega]
    show (s.flatMap encP)[i * 5 + (1 + j)]? = _
    rw [this, Nat.add_comm 1 j]
    rfl
  · rename_i hj; exact (List.getElem?_eq_none (by show 4 ≤ j; omega)).symm
theorem whole_take {s : List Pg} (h : s.length = 512) : takeM (encS s) 0 2560 = some (encS s) := by
  have hl := encS_len s
  unfold takeM
  rw [if_pos (by omega), List.drop_zero, List.take_of_length_le (by omega)]
theorem putC_many (cs : List C) (off : Nat) (a b : C) (r : List C) : putCells cs off (a :: b :: r) = cs.take off ++ (a :: b :: r) ++ cs.drop (off + (a :: b :: r).length) := rfl
theorem putC_whole {cs xs : List C} (h : cs.length = xs.length) : putCells cs 0 xs = xs := by
  unfold putCells
  split
  · rename_i x
    match cs, h with
    | [c], _ => rfl
  · rw [List.take_zero, List.nil_append, List.drop_of_length_le (by omega), List.append_nil]
theorem page_put {s : List Pg} {i : Nat} (p : Pg) (h : i < s.length) : putCells (encS s) (i * 5) (encP p) = encS (s.set i p) := by
  rw [show encP p = .v (.bool p.is) :: .v (.int .i64 p.t.p) :: [.v (.bool p.t.sh), .v (.int .i64 p.t.b), .v (.int .i64 p.t.o)] from rfl, putC_many]
  show (encS s).take (i * 5) ++ encP p ++ (encS s).drop (i * 5 + 5) = _
  have e1 : s = s.take i ++ nthP s i :: s.drop (i + 1) := by
    have h2 := nthP_get h
    rw [List.getElem?_eq_getElem h] at h2
    injection h2 with h2
    rw [← h2, List.getElem_cons_drop, List.take_append_drop]
  have e2 : s.set i p = s.take i ++ p :: s.drop (i + 1) := by
    rw [List.set_eq_take_append_cons_drop, if_pos h]
  have e3 : encS s = encS (s.take i) ++ (encP (nthP s i) ++ encS (s.drop (i + 1))) := by
    conv => lhs; rw [e1]
    unfold encS
    rw [List.flatMap_append, List.flatMap_cons]
  have hl : (encS (s.take i)).length = i * 5 := by rw [encS_len, List.length_take]; omega
  rw [e2, e3]
  unfold encS
  rw [List.flatMap_append, List.flatMap_cons, List.take_append_of_le_length (by rw [← encS, hl]; exact Nat.le_refl _), List.take_of_length_le (by rw [← encS, hl]; exact Nat.le_refl _), ← encS]
  rw [List.append_assoc]
  congr 1
  congr 1
  rw [← hl, List.drop_length_add_append]
  exact List.drop_left (l₁ := encP (nthP s i))
theorem set_len {s : List Pg} {i : Nat} {p : Pg} : (s.set i p).length = s.length := List.length_set
theorem whole_put {s s' : List Pg} (h : s.length = 512) (h' : s'.length = 512) : takeM (putCells (encS s') 0 (encS s)) 0 2560 = some (encS s) := by
  rw [putC_whole (by rw [encS_len, encS_len, h, h']), whole_take h]
theorem nthA_mem {l : List Ar} {i : Nat} (h : i < l.length) : nthA l i ∈ l := by
  rw [nthA_elem h]
  exact List.getElem_mem h
theorem encS_len2 {s : List Pg} (h : s.length = 512) : (encS s).length = 2560 := by
  rw [encS_len, h]
/-! ### Of -/
def ofStep (a : Ar) (s : List Pg) (k : Nat) : List Pg := s.set (pG a k).toNat ⟨true, refAttr a (pG a k)⟩
def ofA (a : Ar) (s : List Pg) : Nat → List Pg
  | 0 => s
  | n + 1 => ofStep a (ofA a s n) n
def lenA (a : Ar) : Nat := (a.e / 4096 - a.s / 4096).toNat
def ofL (l : List Ar) : List Pg := l.foldl (fun s a => ofA a s (lenA a)) noS
theorem ofA_len (a : Ar) (s : List Pg) : ∀ n, (ofA a s n).length = s.length
  | 0 => rfl
  | n + 1 => by rw [ofA, ofStep, set_len, ofA_len a s n]
theorem ofF_len : ∀ (l : List Ar) (s : List Pg), (l.foldl (fun s a => ofA a s (lenA a)) s).length = s.length
  | [], s => rfl
  | a :: l, s => by rw [List.foldl_cons, ofF_len l, ofA_len]
theorem ofL_len (l : List Ar) : (ofL l).length = 512 := by
  unfold ofL
  rw [ofF_len, noS_len]
theorem ofL_next {l : List Ar} {i : Nat} (h : i < l.length) : ofL (l.take (i + 1)) = ofA (nthA l i) (ofL (l.take i)) (lenA (nthA l i)) := by
  unfold ofL
  rw [take_next h, List.foldl_append]
  rfl
theorem of_in {a : Ar} (h : formed a = true) {k : Nat} (hk : pG a k < w64 (Int.tdiv a.e 4096)) : k < lenA a ∧ 0 ≤ pG a k ∧ pG a k < 512 ∧ w64 (pG a k + 1) = pG a (k + 1) := by
  have f := fo.1 h
  have := f.lo; have := f.hi; have := f.s0; have := f.e0; have := f.lt
  rw [w_div (n := a.e) (by omega)] at hk
  unfold lenA
  have e : w64 (pG a k + 1) = pG a k + 1 := w64_id (by unfold pG at hk ⊢; unfold In64; omega)
  unfold pG at *
  omega
theorem of_out {a : Ar} (h : formed a = true) {k : Nat} (hk : ¬ pG a k < w64 (Int.tdiv a.e 4096)) (hl : k ≤ lenA a) : k = lenA a := by
  have f := fo.1 h
  have := f.lo; have := f.hi; have := f.s0; have := f.e0; have := f.lt
  rw [w_div (n := a.e) (by omega)] at hk
  unfold lenA at *
  unfold pG at *
  omega
theorem of_0 {a : Ar} (h : formed a = true) : w64 (Int.tdiv a.s 4096) = pG a 0 := by
  have f := fo.1 h
  have := f.lo; have := f.hi; have := f.lt
  rw [w_div (n := a.s) (by omega)]
  unfold pG
  omega
theorem of_fit {a : Ar} (h : formed a = true) {k : Nat} (hk : pG a k < w64 (Int.tdiv a.e 4096)) {s : List Pg} (hs : s.length = 512) : 0 + (pG a k).toNat * 5 + 5 ≤ (encS (ofA a s k)).length := by
  have := of_in h hk
  rw [encS_len, ofA_len, hs]
  omega
theorem of_put {a : Ar} (h : formed a = true) {k : Nat} (hk : pG a k < w64 (Int.tdiv a.e 4096)) {s : List Pg} (hs : s.length = 512) : putCells (encS (ofA a s k)) (0 + (pG a k).toNat * 5) [.v (.bool true), .v (.int .i64 (refAttr a (pG a k)).p), .v (.bool (refAttr a (pG a k)).sh), .v (.int .i64 (refAttr a (pG a k)).b), .v (.int .i64 (refAttr a (pG a k)).o)] = encS (ofA a s (k + 1)) := by
  have := of_in h hk
  rw [Nat.zero_add]
  exact page_put ⟨true, refAttr a (pG a k)⟩ (by rw [ofA_len, hs]; omega)
/-! ### List -/
def pageAr (n : Nat) (t : At) : Ar := ⟨4096 * n, 4096 * (n + 1), t.p, t.sh, t.b, t.o⟩
def goesOn (s : List Pg) (z : Ar) (n : Nat) : Bool := (z.e == 4096 * (n : Int)) && afterA (nthP s (n - 1)).t (nthP s n).t
def listStep (s : List Pg) (out : List Ar) (n : Nat) : List Ar :=
  if (nthP s n).is = true then
    match out.getLast? with
    | none => [pageAr n (nthP s n).t]
    | some z => if goesOn s z n = true then out.dropLast ++ [{ z with e := 4096 * (n + 1) }] else out ++ [pageAr n (nthP s n).t]
  else out
def listN (s : List Pg) : Nat → List Ar
  | 0 => []
  | n + 1 => listStep s (listN s n) (16 + n)
def listS (s : List Pg) : List Ar := listN s 496
theorem listStep_le (s : List Pg) (out : List Ar) (n : Nat) : (listStep s out n).length ≤ out.length + 1 := by
  unfold listStep
  split
  · split
    · simp
    · split
      · simp
      · simp
  · omega
theorem listN_le (s : List Pg) : ∀ n, (listN s n).length ≤ n
  | 0 => Nat.le_refl _
  | n + 1 => by
    have := listStep_le s (listN s n) (16 + n)
    have := listN_le s n
    rw [listN]
    omega
theorem listS_le (s : List Pg) : (listS s).length ≤ 496 := listN_le s 496
theorem step_not {s : List Pg} {out : List Ar} {n : Nat} (h : (nthP s n).is = false) : listStep s out n = out := by
  unfold listStep
  rw [h]
  rfl
theorem step_nil {s : List Pg} {n : Nat} (h : (nthP s n).is = true) : listStep s [] n = [pageAr n (nthP s n).t] := by
  unfold listStep
  rw [if_pos h]
  rfl
theorem step_yes {s : List Pg} {out : List Ar} {n : Nat} (h : (nthP s n).is = true) (h0 : 0 < out.length) (hg : goesOn s (nthA out (out.length - 1)) n = true) : listStep s out n = out.dropLast ++ [{ nthA out (out.length - 1) with e := 4096 * (n + 1) }] := by
  unfold listStep
  rw [if_pos h, last_at h0]
  simp only [hg, if_true]
theorem step_no {s : List Pg} {out : List Ar} {n : Nat} (h : (nthP s n).is = true) (h0 : 0 < out.length) (hg : goesOn s (nthA out (out.length - 1)) n = false) : listStep s out n = out ++ [pageAr n (nthP s n).t] := by
  unfold listStep
  rw [if_pos h, last_at h0]
  simp only [hg, Bool.false_eq_true, if_false]
theorem last_e {l : List Ar} (h0 : decide ((0 : Int) < (l.length : Int)) = true) (hl : l.length ≤ 1000000) : (encL l)[(IntKind.i64.wrap ((l.length : Int) - 1)).toNat * 6 + 1]? = some (.v (.int .i64 (nthA l (l.length - 1)).e)) := by
  have := last_ix h0 hl
  rw [this.1]
  exact la_e this.2
theorem set_last {l : List Ar} (h : 0 < l.length) (x : Ar) : l.set (l.length - 1) x = l.dropLast ++ [x] := by
  rw [List.set_eq_take_append_cons_drop, if_pos (by omega), List.dropLast_eq_take, List.drop_of_length_le (by omega)]
theorem last_set_e {l : List Ar} (h0 : decide ((0 : Int) < (l.length : Int)) = true) (hl : l.length ≤ 1000000) (e : Int) : putCells (encL l) ((IntKind.i64.wrap ((l.length : Int) - 1)).toNat * 6 + 1) [.v (.int .i64 e)] = encL (l.dropLast ++ [{ nthA l (l.length - 1) with e := e }]) := by
  have h := last_ix h0 hl
  have hp : 0 < l.length := by have := of_decide_eq_true h0; omega
  rw [h.1, Int.toNat_natCast, ← set_last hp]
  exact enc_put encA_len l (l.length - 1) (nthA l (l.length - 1)) { nthA l (l.length - 1) with e := e } 1 (.v (.int .i64 e)) (nthA_get h.2) (by decide) rfl
theorem page_is' {s : List Pg} (hs : s.length = 512) {m : Nat} (h : m < 512) : (encS s)[0 + ((m : Nat) : Int).toNat * 5]? = some (.v (.bool (nthP s m).is)) := by
  rw [Int.toNat_natCast, Nat.zero_add]
  exact page_is (by omega)
theorem page_attr' {s : List Pg} (hs : s.length = 512) {m : Nat} (h : m < 512) : takeM (encS s) (0 + ((m : Nat) : Int).toNat * 5 + 1) 4 = some [.v (.int .i64 (nthP s m).t.p), .v (.bool (nthP s m).t.sh), .v (.int .i64 (nthP s m).t.b), .v (.int .i64 (nthP s m).t.o)] := by
  rw [Int.toNat_natCast, Nat.zero_add]
  exact page_attr (by omega)
theorem pre_page {m : Nat} (h : 16 ≤ m) (h' : m < 512) : IntKind.i64.wrap (((m : Nat) : Int) - 1) = ((m - 1 : Nat) : Int) := by
  have : w64 ((m : Int) - 1) = (m : Int) - 1 := w64_id (by unfold In64; omega)
  unfold w64 at this
  rw [this]
  omega
theorem page_pre {s : List Pg} (hs : s.length = 512) {m : Nat} (h0 : 16 ≤ m) (h : m < 512) : takeM (encS s) (0 + (IntKind.i64.wrap (((m : Nat) : Int) - 1)).toNat * 5 + 1) 4 = some [.v (.int .i64 (nthP s (m - 1)).t.p), .v (.bool (nthP s (m - 1)).t.sh), .v (.int .i64 (nthP s (m - 1)).t.b), .v (.int .i64 (nthP s (m - 1)).t.o)] := by
  rw [pre_page h0 h]
  exact page_attr' hs (by omega)
theorem mul_page {m : Nat} (h : m ≤ 512) : IntKind.i64.wrap (4096 * ((m : Nat) : Int)) = 4096 * (m : Int) := w64_id (by unfold In64; omega)
theorem mul_next {m : Nat} (h : m < 512) : IntKind.i64.wrap (4096 * IntKind.i64.wrap (((m : Nat) : Int) + 1)) = 4096 * ((m : Int) + 1) := by
  have : w64 ((m : Int) + 1) = (m : Int) + 1 := w64_id (by unfold In64; omega)
  unfold w64 at this
  rw [this]
  exact w64_id (by unfold In64; omega)
def nextAr (s : List Pg) (m : Nat) : Ar := ⟨IntKind.i64.wrap (4096 * ((m : Nat) : Int)), IntKind.i64.wrap (4096 * IntKind.i64.wrap (((m : Nat) : Int) + 1)), (nthP s m).t.p, (nthP s m).t.sh, (nthP s m).t.b, (nthP s m).t.o⟩
theorem nextAr_eq (s : List Pg) {m : Nat} (h : m < 512) : nextAr s m = pageAr m (nthP s m).t := by
  unfold nextAr pageAr
  rw [mul_page (by omega), mul_next h]
section
variable {s : List Pg} {n : Nat}
theorem lst_not (hi : (nthP s (16 + n)).is = false) : listN s (n + 1) = listN s n := step_not hi
theorem lst_yes (hm : 16 + n < 512) (hi : (nthP s (16 + n)).is = true) (h0 : decide ((0 : Int) < ((listN s n).length : Int)) = true) (he : ((nthA (listN s n) ((listN s n).length - 1)).e == IntKind.i64.wrap (4096 * ((16 + n : Nat) : Int))) = true)
    (ha : afterA (nthP s (16 + n - 1)).t (nthP s (16 + n)).t = true) : listN s (n + 1) = (listN s n).dropLast ++ [{ nthA (listN s n) ((listN s n).length - 1) with e := IntKind.i64.wrap (4096 * IntKind.i64.wrap (((16 + n : Nat) : Int) + 1)) }] := by
  rw [mul_page (by omega)] at he
  rw [mul_next hm]
  refine step_yes hi (by have := of_decide_eq_true h0; omega) ?_
  unfold goesOn
  rw [he, ha]
  rfl
theorem lst_no1 (hm : 16 + n < 512) (hi : (nthP s (16 + n)).is = true) (h0 : decide ((0 : Int) < ((listN s n).length : Int)) = true) (ha : afterA (nthP s (16 + n - 1)).t (nthP s (16 + n)).t = false) : listN s (n + 1) = listN s n ++ [nextAr s (16 + n)] := by
  rw [nextAr_eq s hm]
  refine step_no hi (by have := of_decide_eq_true h0; omega) ?_
  unfold goesOn
  rw [ha, Bool.and_false]
theorem lst_no2 (hm : 16 + n < 512) (hi : (nthP s (16 + n)).is = true) (h0 : decide ((0 : Int) < ((listN s n).length : Int)) = true) (he : ((nthA (listN s n) ((listN s n).length - 1)).e == IntKind.i64.wrap (4096 * ((16 + n : Nat) : Int))) = false) : listN s (n + 1) = listN s n ++ [nextAr s (16 + n)] := by
  rw [nextAr_eq s hm]
  rw [mul_page (by omega)] at he
  refine step_no hi (by have := of_decide_eq_true h0; omega) ?_
  unfold goesOn
  rw [he, Bool.false_and]
theorem lst_no3 (hm : 16 + n < 512) (hi : (nthP s (16 + n)).is = true) (h0 : decide ((0 : Int) < ((listN s n).length : Int)) = false) : listN s (n + 1) = listN s n ++ [nextAr s (16 + n)] := by
  rw [nextAr_eq s hm]
  have hnil : listN s n = [] := List.eq_nil_of_length_eq_zero (by have := of_decide_eq_false h0; omega)
  show listStep s (listN s n) (16 + n) = _
  rw [hnil]
  exact step_nil hi
theorem lst_len1 {a : Ar} (hv : listN s (n + 1) = listN s n ++ [a]) : (listN s n).length + 1 = (listN s (n + 1)).length := by rw [hv, List.length_append]; rfl
theorem lst_enc1 (hv : listN s (n + 1) = listN s n ++ [nextAr s (16 + n)]) : encL (listN s n) ++ [.v (.int .i64 (IntKind.i64.wrap (4096 * ((16 + n : Nat) : Int)))), .v (.int .i64 (IntKind.i64.wrap (4096 * IntKind.i64.wrap (((16 + n : Nat) : Int) + 1)))), .v (.int .i64 (nthP s (16 + n)).t.p), .v (.bool (nthP s (16 + n)).t.sh), .v (.int .i64 (nthP s (16 + n)).t.b), .v (.int .i64 (nthP s (16 + n)).t.o)] = encL (listN s (n + 1)) := by
  rw [hv, encL_app, encL_one]
  rfl
theorem lst_len2 {a : Ar} (h0 : decide ((0 : Int) < ((listN s n).length : Int)) = true) (hv : listN s (n + 1) = (listN s n).dropLast ++ [a]) : (listN s n).length = (listN s (n + 1)).length := by
  have := of_decide_eq_true h0
  rw [hv, List.length_append, List.length_dropLast]
  show _ = _ - 1 + 1
  omega
theorem lst_fit (h0 : decide ((0 : Int) < ((listN s n).length : Int)) = true) (hl : (listN s n).length ≤ 1000000) : (IntKind.i64.wrap (((listN s n).length : Int) - 1)).toNat * 6 + 1 + 1 ≤ (encL (listN s n)).length := by
  have h := last_ix h0 hl
  rw [h.1, encL_len]
  omega
theorem page_ix {m : Nat} (h : m < 512) : (0 : Int) ≤ ((m : Nat) : Int) ∧ ((m : Nat) : Int) < ((512 : Nat) : Int) := by omega
theorem pre_ix' {m : Nat} (h : 16 ≤ m) (h' : m < 512) : 0 ≤ IntKind.i64.wrap (((m : Nat) : Int) - 1) ∧ IntKind.i64.wrap (((m : Nat) : Int) - 1) < ((512 : Nat) : Int) := by
  rw [pre_page h h']
  omega
theorem page_succ {m : Nat} (h : m < 512) : IntKind.i64.wrap (((m : Nat) : Int) + 1) = ((m + 1 : Nat) : Int) := nat_succ (by omega)
end
/-! ### Made -/
theorem zero_put {s : List Pg} (h : s.length = 512) : putCells (List.replicate 512 [C.v (.bool false), .v (.int .i64 0), .v (.bool false), .v (.int .i64 0), .v (.int .i64 0)]).flatten 0 (encS s) = encS s := by
  rw [encS_noS]
  exact putC_whole (by rw [encS_len, encS_len, h, noS_len])
end Go.Proofs.YtbcicjmepojlnaaGreat.Eng
/- Contracts of functions (printed by genx.py of this work): what each hands back; condition: as its 'hside' says. -/
namespace Go.Proofs.YtbcicjmepojlnaaGreat.Eng
open Go Go.RowKit
set_option linter.unusedVariables false
set_option linter.unusedSimpArgs false
theorem b_of : Bodied Tryz.prog 57 := bodied Tryz.func57 rfl (by decide)
def F_of : FunX := fun κ avs => match avs with
  | [.lst l xl] => some (κ _ (Fm l ∧ l.length ≤ 300000), (.val (.agg (κ _ (encS (ofL l))))))
  | _ => none
set_option maxRecDepth 100000 in
set_option maxHeartbeats 4000000 in
theorem k_of (l : List Ar) (Al : Option Addr) (cl : Nat) (hside : Fm l ∧ l.length ≤ 300000) (w : World) (hl : (Ent.rd Al 6 l.length (encL l)).holds w) :
    Calls Tryz.prog 57 #[.slice Al l.length cl] w fun e w' => ∃ v H', e = .returned v.den ∧ IsX (.val (.agg (encS (ofL l)))) v H' ∧ HSat w (fun _ => False) H' w' := by
  obtain ⟨κ, hκ⟩ : ∃ κ : Kp, κ = kid := ⟨_, rfl⟩
  have hH : HSat w (fun _ => False) (heapOf [(nilId, .rd none 1 0 []), (200000, .rd Al 6 (κ _ l.length) (κ _ (encL l)))]) w := by
    subst hκ
    refine HSat.reads fun p hp => ?_
    simp only [List.mem_cons, List.not_mem_nil, or_false] at hp
    rcases hp with rfl | rfl
    · exact ⟨_, _, _, _, rfl, nil_holds w⟩
    · exact ⟨_, _, _, _, rfl, hl⟩
  refine (callsP (n := 44) FTok [e_refAttr hκ] mixed [] Tryz.func57 rfl (by kernel_rfl) #[.slice Al l.length cl] [(0, .c (.sl 200000 Al (κ _ l.length) cl))] _ w rfl [.cell 2 90] rfl (by simp) (by subst hκ; simp [SV.den, C.den, kid]) hH (fun v H' => IsX (.val (.agg (κ _ (encS (ofL l))))) v H') hκ ?_).mono ?_
  rotate_left
  · subst hκ; intro e w' h; exact h
  intro P' hP'
  cbv
  repeat' (first | refine And.intro ?_ ?_ | (intro _; cbv) | (refine tst_mk (fun h => ?_) (fun h => ?_) <;> cbv) | (refine LookX.nil ?_; cbv) | (refine LookX.auto hκ ?_; cbv))
  rename_i b2 b3
  refine loopP hP' FTok [e_refAttr hκ] mixed [0, 2, 3] (σ := Nat) (fun i => [(4, .c (.v (.int .i64 (κ _ ((i : Nat) : Int)))))]) (fun i => [(200000, .rd Al 6 (κ _ l.length) (κ _ (encL l))), (2, .blk b2 90 (κ _ (encS noS))), (3, .blk b3 90 (κ _ (encS (ofL (l.take i)))))]) (fun i => l.length - i) 0 [200000, 2, 3] ?_ (by decide) ?_ hκ ?_
  · cbv
    all_goals (subst hκ; delta kid; repeat' (first | exact rfl | exact trivial | refine And.intro ?_ ?_))
  · cbv
    all_goals (subst hκ; delta kid; repeat' (first | exact rfl | exact trivial | refine And.intro ?_ ?_ | exact congrArg (List.map C.den) encS_noS))
  intro i
  cbv
  refine tst_mk (fun h => ?_) (fun h => ?_)
  · have hx : i < l.length := by subst hκ; delta kid at h; have h2 : (i : Int) < (l.length : Int) := of_decide_eq_true h; omega
    have hf := hside.1 _ (nthA_mem hx)
    cbv
    repeat' (first | refine And.intro ?_ ?_ | (intro _; cbv) | (refine tst_mk (fun h => ?_) (fun h => ?_) <;> cbv) | (refine LookX.nil ?_; cbv) | (refine LookX.auto hκ ?_; cbv) | (refine LookN.mk' (x := [.v (.int .i64 (κ _ (nthA l i).s)), .v (.int .i64 (κ _ (nthA l i).e)), .v (.int .i64 (κ _ (nthA l i).p)), .v (.bool (κ _ (nthA l i).sh)), .v (.int .i64 (κ _ (nthA l i).b)), .v (.int .i64 (κ _ (nthA l i).o))]) (by subst hκ; delta kid at *; exact la_take hx) ?_; cbv) | (refine LookR.mk' (x := .v (.int .i64 (κ _ (nthA l i).s))) (by subst hκ; delta kid at *; exact la_s hx) ?_; cbv) | (refine LookR.mk' (x := .v (.int .i64 (κ _ (nthA l i).e))) (by subst hκ; delta kid at *; exact la_e hx) ?_; cbv))
    all_goals (try (show Side _; refine ⟨?_⟩; subst hκ; delta kid at *; first | exact rfl | exact trivial | exact ⟨rfl, rfl, .inl rfl⟩ | exact la_ix hx | ((try dsimp only at *); (try simp only [setTo_len, noS_len, List.length_append, List.length_cons, List.length_nil, List.length_map, and_self, true_or, or_true, eq_self, true_and, and_true, Nat.zero_add, Nat.add_zero]); (first | done | omega); done)))
    refine loopP hP' FTok [e_refAttr hκ] mixed [0, 2, 3, 4] (σ := {k : Nat // k ≤ lenA (nthA l i)}) (fun q => [(5, .c (.v (.int .i64 (κ _ (pG (nthA l i) q.1)))))]) (fun q => [(200000, .rd Al 6 (κ _ l.length) (κ _ (encL l))), (2, .blk b2 90 (κ _ (encS noS))), (3, .blk b3 90 (κ _ (encS (ofA (nthA l i) (ofL (l.take i)) q.1))))]) (fun q => lenA (nthA l i) - q.1) ⟨0, Nat.zero_le _⟩ [200000, 2, 3] ?_ (by decide) ?_ hκ ?_
    · cbv
      all_goals (subst hκ; delta kid; repeat' (first | exact rfl | exact trivial | refine And.intro ?_ ?_ | exact congrArg (Value.int .i64) (of_0 hf)))
    · cbv
      all_goals (subst hκ; delta kid; repeat' (first | exact rfl | exact trivial | refine And.intro ?_ ?_ | exact congrArg (Value.int .i64) (of_0 hf)))
    rintro ⟨k, hk⟩
    cbv
    repeat' (first | refine And.intro ?_ ?_ | (intro _; cbv) | (refine tst_mk (fun h => ?_) (fun h => ?_) <;> cbv) | (refine LookX.nil ?_; cbv) | (refine LookX.auto hκ ?_; cbv) | (refine LookN.mk' (x := [.v (.int .i64 (κ _ (nthA l i).s)), .v (.int .i64 (κ _ (nthA l i).e)), .v (.int .i64 (κ _ (nthA l i).p)), .v (.bool (κ _ (nthA l i).sh)), .v (.int .i64 (κ _ (nthA l i).b)), .v (.int .i64 (κ _ (nthA l i).o))]) (by subst hκ; delta kid at *; exact la_take hx) ?_; cbv) | (refine LookR.mk' (x := .v (.int .i64 (κ _ (nthA l i).s))) (by subst hκ; delta kid at *; exact la_s hx) ?_; cbv) | (refine LookR.mk' (x := .v (.int .i64 (κ _ (nthA l i).e))) (by subst hκ; delta kid at *; exact la_e hx) ?_; cbv))
    all_goals (try (show Side _; refine ⟨?_⟩; subst hκ; delta kid at *; first | exact rfl | exact trivial | exact ⟨rfl, rfl, .inl rfl⟩ | exact la_ix hx | ((try dsimp only at *); (try simp only [setTo_len, noS_len, List.length_append, List.length_cons, List.length_nil, List.length_map, and_self, true_or, or_true, eq_self, true_and, and_true, Nat.zero_add, Nat.add_zero]); (first | done | omega); done)))
    all_goals (clear hH; subst hκ; delta kid at *; (try dsimp only at *))
    all_goals (try simp only [nthA_eta] at *)
    · have q := of_in hf (of_decide_eq_true h); exact ⟨⟨q.2.1, q.2.2.1⟩⟩
    · exact ⟨of_fit hf (of_decide_eq_true h) (ofL_len _)⟩
    · have q := of_in hf (of_decide_eq_true h)
      refine ⟨⟨⟨k + 1, q.1⟩, [200000, 2, 3], (by show lenA (nthA l i) - (k + 1) < lenA (nthA l i) - k; omega), by decide, ?_, ?_⟩⟩
      all_goals repeat' (first | exact rfl | exact trivial | refine And.intro ?_ ?_ | exact congrArg (Value.int .i64) q.2.2.2 | exact congrArg (List.map C.den) (of_put hf (of_decide_eq_true h) (ofL_len _)))
    · have q := of_out hf (of_decide_eq_false h) hk
      subst q
      refine ⟨⟨i + 1, [200000, 2, 3], (by show l.length - (i + 1) < l.length - i; omega), by decide, ?_, ?_⟩⟩
      all_goals repeat' (first | exact rfl | exact trivial | refine And.intro ?_ ?_ | exact congrArg (List.map C.den) (congrArg encS (ofL_next hx).symm) | exact congrArg (Value.int .i64) (nat_succ (by omega)))
  · have hx : ¬ i < l.length := by subst hκ; delta kid at h; have h2 : ¬ (i : Int) < (l.length : Int) := of_decide_eq_false h; omega
    cbv
    repeat' (first | refine And.intro ?_ ?_ | (intro _; cbv) | (refine tst_mk (fun h => ?_) (fun h => ?_) <;> cbv) | (refine LookX.nil ?_; cbv) | (refine LookX.auto hκ ?_; cbv) | (refine LookN.mk' (x := κ _ (encS (ofL (l.take i)))) (by subst hκ; delta kid at *; exact whole_take (ofL_len _)) ?_; cbv) | (refine LookN.mk' (x := κ _ (encS (ofL (l.take i)))) (by subst hκ; delta kid at *; exact whole_put (ofL_len _) noS_len) ?_; cbv))
    all_goals (try (show Side _; refine ⟨?_⟩; subst hκ; delta kid at *; first | exact rfl | exact trivial | exact ⟨rfl, rfl, .inl rfl⟩ | exact la_ix hx | ((try dsimp only at *); (try simp only [setTo_len, noS_len, List.length_append, List.length_cons, List.length_nil, List.length_map, and_self, true_or, or_true, eq_self, true_and, and_true, Nat.zero_add, Nat.add_zero]); (first | done | omega); done)))
    all_goals (clear hH; subst hκ; delta kid at *; (try dsimp only at *))
    · (have ho := encS_ok (ofL (l.take i)); generalize encS (ofL (l.take i)) = xs at ho ⊢; cases xs <;> exact ho)
    · (have ho := encS_len2 (s := ofL (l.take i)) (ofL_len _); generalize encS (ofL (l.take i)) = xs at ho ⊢; cases xs <;> exact ho.symm)
    · exact ⟨by rw [encS_len, encS_len, ofL_len, noS_len]; omega⟩
    · rw [take_all hx]
      exact IsX.val_ rfl
def e_of {κ : Kp} (hκ : κ = kid) : ESpec Tryz.prog := fnES [.list] b_of F_of hκ fun avs p r hF hp => by
  unfold F_of at hF
  split at hF
  case h_2 => cases hF
  rename_i l xl
  simp only [kid, Option.some.injEq, Prod.mk.injEq] at hF
  obtain ⟨rfl, rfl⟩ := hF
  refine ⟨trivial, fun vs w hR => ?_⟩
  obtain ⟨il, Al, cl, vs0, rfl, rfl, hl, hR⟩ := hR
  have hR' : vs0 = [] := hR
  subst hR'
  exact k_of l Al cl hp w hl
end Go.Proofs.YtbcicjmepojlnaaGreat.Eng
