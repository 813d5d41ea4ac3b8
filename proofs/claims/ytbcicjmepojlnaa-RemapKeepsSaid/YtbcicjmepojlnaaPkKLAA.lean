/- Texts of this work, laid together: symbolic execution over the model, contracts of the program's functions, what they come to; conditions: as each says. -/
import Derived.Test.YtbcicjmepojlnaaPkKBN
import Derived.Test.YtbcicjmepojlnaaPkKBO
/- Remap: pages kept, and others; no condition but those typed. -/
namespace Go.Proofs.Ytbcicjmepojlnaa.Eng
open Go Go.RowKit
set_option autoImplicit false
set_option linter.unusedSimpArgs false
set_option linter.unusedVariables false
theorem page_same {l m : List Ar} (hl : Rt l) (hm : Rt m) {q : Nat} (hq : q < 512) (h : ∀ t, Has l (4096 * (q : Int)) t ↔ Has m (4096 * (q : Int)) t) : nthP (ofL l) q = nthP (ofL m) q := by
  have key : ∀ {a b : List Ar}, Rt a → Rt b → (∀ t, Has a (4096 * (q : Int)) t ↔ Has b (4096 * (q : Int)) t) → (nthP (ofL a) q).is = true → nthP (ofL a) q = nthP (ofL b) q := fun {a b} ha hb hh hi => by
    have h16 : 16 ≤ q := by
      by_cases h16 : 16 ≤ q
      · exact h16
      · exact (of_low ha.1 hq (by omega) hi).elim
    obtain ⟨e1, e2⟩ := has_of hb.ok ((hh _).1 (of_has ha.ok h16 hq hi))
    generalize nthP (ofL a) q = x at hi e2 ⊢
    generalize nthP (ofL b) q = y at e1 e2 ⊢
    cases x; cases y
    simp_all
  cases h1 : (nthP (ofL l) q).is with
  | true => exact key hl hm h h1
  | false =>
    cases h2 : (nthP (ofL m) q).is with
    | true => exact (key hm hl (fun t => (h t).symm) h2).symm
    | false => rw [(of_spec hl.ok).2 q hq h1, (of_spec hm.ok).2 q hq h2]
theorem touch_no {q : Nat} {a n : Int} (hz : a % 4096 = 0) (h0 : 65536 ≤ a) (hn : 0 < n ∧ n ≤ 2031616) (hr : a + sizeV n ≤ 2097152) (h : touB q a (IntKind.i64.wrap (a + n)) = false) : ¬ (a ≤ 4096 * (q : Int) ∧ 4096 * (q : Int) < a + sizeV n) := by
  have hs := size_ok ((sizeE_iff n).2 hn)
  have s1 := hs.1.z; have s2 := hs.2.1; have s3 := hs.2.2
  rw [show IntKind.i64.wrap (a + n) = a + n from w64_id (by unfold In64; omega)] at h
  unfold touB at h
  rw [show decide (a < a + n) = true by rw [decide_eq_true_eq]; omega, Bool.true_and] at h
  intro ⟨g1, g2⟩
  rw [show decide (a < 4096 * (q : Int) + 4096) = true by rw [decide_eq_true_eq]; omega, Bool.true_and, decide_eq_false_iff_not] at h
  omega
theorem others_law {x : List Ar} {c : Cl} (h : (remN x c).er = 0) {k : Nat} (hk : k < 512) (t1 : touB k c.a (IntKind.i64.wrap (c.a + c.n)) = false) (t2 : touB k (remN x c).v (IntKind.i64.wrap ((remN x c).v + c.w)) = false) : nthP (ofL (remL x c)) k = nthP (ofL x) k := by
  obtain ⟨h0, hr, hm, _, ho⟩ := rem_pages h
  obtain ⟨m1, _, m3, m4, _⟩ := rm_ok0 h0
  obtain ⟨r1, r2, r3, r4⟩ := range_ok m3
  have rz := r1.z; have rlo := r1.lo; have rhi := r1.hi
  rw [r2] at rz rlo
  rw [r3] at rhi
  have v1 := hr.lo; have v2 := hr.hi; have v3 := hr.z
  have n1 := touch_no rz rlo ((sizeE_iff _).1 r4) rhi t1
  have n2 := touch_no v3 v1 ((sizeE_iff _).1 m4) v2 t2
  refine page_same (mayS_rt hm).1 (rm_found h0).rt hk fun t => ho _ t (by omega) n2 ?_
  show ¬ (rangeLo c.a c.n ≤ 4096 * (k : Int) ∧ 4096 * (k : Int) < rangeHi c.a c.n)
  rw [r2, r3]
  exact n1
theorem eqP_self (x : Pg) : (x.is == x.is && (x.t.p == x.t.p && (x.t.sh == x.t.sh && (x.t.b == x.t.b && (x.t.o == x.t.o && true))))) = true := by simp
theorem page_take5 {s : List Pg} (hs : s.length = 512) {k : Nat} (h : k < 512) : takeM (encS s) (0 + ((k : Nat) : Int).toNat * 5) 5 = some [.v (.bool (nthP s k).is), .v (.int .i64 (nthP s k).t.p), .v (.bool (nthP s k).t.sh), .v (.int .i64 (nthP s k).t.b), .v (.int .i64 (nthP s k).t.o)] := by
  rw [Int.toNat_natCast, Nat.zero_add]
  exact page_take (by omega)
theorem rem_fm {x : List Ar} {c : Cl} (h : (remN x c).er = 0) : Fm (remL x c) := (mayS_rt (rem_pages h).2.2.1).1.1
/-! ### There and back, as the law asks -/
abbrev thTo (pg : Int) : Int := IntKind.i64.wrap (4096 * IntKind.i64.wrap (16 + IntKind.i64.wrap (Int.tmod pg 496)))
theorem th_all {pg : Int} (h : 0 ≤ pg ∧ pg ≤ 65535) : thTo pg % 4096 = 0 ∧ 65536 ≤ thTo pg ∧ thTo pg ≤ 2093056 := by
  have e0 : Int.tmod pg 496 = pg % 496 := Int.tmod_eq_emod_of_nonneg h.1
  have e1 : IntKind.i64.wrap (pg % 496) = pg % 496 := w64_id (by unfold In64; omega)
  have e2 : IntKind.i64.wrap (16 + pg % 496) = 16 + pg % 496 := w64_id (by unfold In64; omega)
  have e3 : IntKind.i64.wrap (4096 * (16 + pg % 496)) = 4096 * (16 + pg % 496) := w64_id (by unfold In64; omega)
  have e : thTo pg = 4096 * (16 + pg % 496) := by unfold thTo; rw [e0, e1, e2, e3]
  rw [e]
  omega
def thOk (x : List Ar) (p n : Int) (i : Nat) : Prop := ∀ j, j < i → ¬ (decide (p < (nthA x j).e) = true ∧ decide ((nthA x j).s < IntKind.i64.wrap (p + n)) = true)
theorem th_0 (x : List Ar) (p n : Int) : thOk x p n 0 := fun j hj => absurd hj (Nat.not_lt_zero j)
theorem th_next {x : List Ar} {p n : Int} {i : Nat} (h : thOk x p n i) (hi : decide (p < (nthA x i).e) = false ∨ decide ((nthA x i).s < IntKind.i64.wrap (p + n)) = false) : thOk x p n (i + 1) := fun j hj => by
  by_cases hji : j = i
  · subst hji
    rintro ⟨h1, h2⟩
    rcases hi with hi | hi
    · rw [h1] at hi; cases hi
    · rw [h2] at hi; cases hi
  · exact h j (by omega)
theorem there_go {x : List Ar} (hm : mayS x = true) {a : Ar} (ha : a ∈ x) {pg : Int} (hp : 0 ≤ pg ∧ pg ≤ 65535) {i : Nat} (hi : ¬ i < x.length) (ho : thOk x (thTo pg) (IntKind.i64.wrap (a.e - a.s)) i) {c d : Cl} (hc : c = ⟨0, a.s, IntKind.i64.wrap (a.e - a.s), IntKind.i64.wrap (a.e - a.s), thTo pg, 0, 17, 0, 0⟩) (hd : d = ⟨0, thTo pg, IntKind.i64.wrap (a.e - a.s), IntKind.i64.wrap (a.e - a.s), a.s, 0, 17, 0, 0⟩) :
    ((remN x c).er ≠ 0 → decide (2097152 < IntKind.i64.wrap (thTo pg + IntKind.i64.wrap (a.e - a.s))) = true) ∧ ((remN x c).er = 0 → remN x c = okA (thTo pg) ∧ remN (remL x c) d = okA a.s ∧ remL (remL x c) d = x) := by
  obtain ⟨t1, t2, t3⟩ := th_all hp
  have fa := fo.1 ((mayS_rt hm).1.1 a ha)
  have a1 := fa.lo; have a2 := fa.hi; have a3 := fa.lt
  have hw : IntKind.i64.wrap (a.e - a.s) = a.e - a.s := len_w fa
  rw [hw] at ho hc hd ⊢
  have hw2 : IntKind.i64.wrap (thTo pg + (a.e - a.s)) = thTo pg + (a.e - a.s) := w64_id (by unfold In64; omega)
  have hf : ∀ z ∈ x, ¬ (thTo pg < z.e ∧ z.s < thTo pg + (a.e - a.s)) := fun z hz ⟨h1, h2⟩ => by
    obtain ⟨j, hj⟩ := List.getElem?_of_mem hz
    have hjl : j < x.length := (List.getElem?_eq_some_iff.1 hj).1
    have e := nthA_get hjl
    rw [hj] at e
    injection e with e
    refine ho j (by omega) ⟨?_, ?_⟩
    · rw [← e]; exact decide_eq_true h1
    · rw [← e, hw2]; exact decide_eq_true h2
  obtain ⟨k1, k2⟩ := there_law hm ha t1 t2 hf (c := c) (d := d) (by subst hc; exact ⟨rfl, rfl, rfl, rfl, rfl⟩) (by subst hd; exact ⟨rfl, rfl, rfl, rfl, rfl⟩)
  refine ⟨fun h => ?_, k2⟩
  rw [hw2]
  exact decide_eq_true (k1 h)
end Go.Proofs.Ytbcicjmepojlnaa.Eng
/- Contracts of functions (printed by genx.py of this work): what each hands back; condition: as its 'hside' says. -/
namespace Go.Proofs.Ytbcicjmepojlnaa.Eng
open Go Go.RowKit
set_option linter.unusedVariables false
set_option linter.unusedSimpArgs false
set_option maxRecDepth 100000 in
set_option maxHeartbeats 4000000 in
theorem k_remapOthers (l : List Ar) (c1 : Int) (c2 : Int) (c3 : Int) (c4 : Int) (c5 : Int) (c6 : Int) (c7 : Int) (c8 : Int) (c9 : Int) (Al : Option Addr) (cl : Nat) (kl : l.length ≤ cl) (hside : True) (w : World) (hl : (Ent.rd Al 6 l.length (encL l)).holds w) :
    Calls Try.prog 38 #[.slice Al l.length cl, (SV.agg [.v (.int .i64 c1), .v (.int .i64 c2), .v (.int .i64 c3), .v (.int .i64 c4), .v (.int .i64 c5), .v (.int .i64 c6), .v (.int .i64 c7), .v (.int .i64 c8), .v (.int .i64 c9)]).den] w fun e w' => ∃ v H', e = .returned v.den ∧ IsX (.val (.c (.v (.bool true)))) v H' ∧ HSat w (fun _ => False) H' w' := by
  obtain ⟨κ, hκ⟩ : ∃ κ : Kp, κ = kid := ⟨_, rfl⟩
  have hH : HSat w (fun _ => False) (heapOf [(nilId, .rd none 1 0 []), (200000, .rd Al 6 (κ _ l.length) (κ _ (encL l)))]) w := by
    subst hκ
    refine HSat.reads fun p hp => ?_
    simp only [List.mem_cons, List.not_mem_nil, or_false] at hp
    rcases hp with rfl | rfl
    · exact ⟨_, _, _, _, rfl, nil_holds w⟩
    · exact ⟨_, _, _, _, rfl, hl⟩
  refine (callsP (n := 69) FTok [e_awake12 hκ, e_some hκ, e_remap hκ, e_of hκ, e_touched hκ] mixed [(11, [[], [0], [0], [0, 1, 2], [0, 1, 2], [0, 1, 2, 3, 4], [0, 1, 2, 3, 4], [0, 1, 2], [], [], [], [], [11], [11], [11, 12, 13], [11, 12, 13], [11, 12, 13, 14, 15], [11, 12, 13, 14, 15], [11, 12, 13], [], [], [], [], [], [], [], [23, 24, 25], [23, 24, 25], [23, 24, 25], [], []])] Try.func38 rfl (by kernel_rfl) #[.slice Al l.length cl, (SV.agg [.v (.int .i64 c1), .v (.int .i64 c2), .v (.int .i64 c3), .v (.int .i64 c4), .v (.int .i64 c5), .v (.int .i64 c6), .v (.int .i64 c7), .v (.int .i64 c8), .v (.int .i64 c9)]).den] [(0, .c (.sl 200000 Al (κ _ l.length) cl)), (1, .agg [.v (.int .i64 c1), .v (.int .i64 c2), .v (.int .i64 c3), .v (.int .i64 c4), .v (.int .i64 c5), .v (.int .i64 c6), .v (.int .i64 c7), .v (.int .i64 c8), .v (.int .i64 c9)])] _ w rfl [.tmp 4] rfl (by simp) (by subst hκ; simp [SV.den, C.den, kid]) hH (fun v H' => IsX (.val (.c (.v (.bool true)))) v H') hκ ?_).mono ?_
  rotate_left
  · subst hκ; intro e w' h; exact h
  intro P' hP'
  cbv
  repeat' (first | refine And.intro ?_ ?_ | (intro _; cbv) | (refine tst_mk (fun h => ?_) (fun h => ?_) <;> cbv) | (refine LookX.nil ?_; cbv) | (refine LookX.auto hκ ?_; cbv))
  all_goals (try (show Side _; refine ⟨?_⟩; subst hκ; delta kid at *; first | exact rfl | exact trivial | exact ⟨rfl, rfl, .inl rfl⟩ | exact ⟨rfl, rfl, .inl rfl, kl⟩ | exact ⟨rfl, rfl, .inl rfl, encL_ok _⟩ | ((try dsimp only at *); have z1 := madeL_le l; have z2 := someL_le l; (try simp only [maxLen]); have q0 : ¬ (30 : Int) < (l.length : Int) := of_decide_eq_false (by assumption); (try simp only [setTo_len, noS_len, List.length_append, List.length_cons, List.length_nil, List.length_map, and_self, true_or, or_true, eq_self, true_and, and_true, Nat.zero_add, Nat.add_zero]); (first | done | omega); done)))
  all_goals (try (show Side _; refine ⟨?_⟩; subst hκ; delta kid at *; first | exact ⟨(some_rt l).1, Nat.le_trans (someL_le l) (by decide)⟩ | exact ⟨rem_fm (c := (⟨c1, c2, c3, c4, c5, c6, c7, c8, c9⟩ : Cl)) (bne_no (by with_reducible assumption)), rem_l1 _ _⟩))
  all_goals (try (show _ = true; subst hκ; delta kid; (have ho := encS_ok (ofL (someL l)); generalize encS (ofL (someL l)) = xs at ho ⊢; cases xs <;> exact ho)))
  all_goals (try (show 2560 = _; subst hκ; delta kid; (have ho := encS_len2 (s := ofL (someL l)) (ofL_len _); generalize encS (ofL (someL l)) = xs at ho ⊢; cases xs <;> exact ho.symm)))
  all_goals (try (show Side _; subst hκ; delta kid; refine ⟨?_⟩; rw [encS_noS, encS_len, encS_len, ofL_len _, noS_len]; omega))
  all_goals (try (show _ = true; subst hκ; delta kid; (have ho := encS_ok (ofL (remL (someL l) (⟨c1, c2, c3, c4, c5, c6, c7, c8, c9⟩ : Cl))); generalize encS (ofL (remL (someL l) (⟨c1, c2, c3, c4, c5, c6, c7, c8, c9⟩ : Cl))) = xs at ho ⊢; cases xs <;> exact ho)))
  all_goals (try (show 2560 = _; subst hκ; delta kid; (have ho := encS_len2 (s := ofL (remL (someL l) (⟨c1, c2, c3, c4, c5, c6, c7, c8, c9⟩ : Cl))) (ofL_len _); generalize encS (ofL (remL (someL l) (⟨c1, c2, c3, c4, c5, c6, c7, c8, c9⟩ : Cl))) = xs at ho ⊢; cases xs <;> exact ho.symm)))
  all_goals (try (show Side _; subst hκ; delta kid; refine ⟨?_⟩; rw [encS_noS, encS_len, encS_len, ofL_len _, noS_len]; omega))
  all_goals (try (show IsX _ _ _; subst hκ; exact IsX.val_ rfl))
  rename_i b3 h30 Ax cx Ay cy b7 b8 b9
  have hr : (remN (someL l) (⟨c1, c2, c3, c4, c5, c6, c7, c8, c9⟩ : Cl)).er = 0 := by subst hκ; exact bne_no h
  clear h
  refine loopP hP' FTok [e_touched hκ] mixed [3, 4, 7, 8, 9] (σ := {k : Nat // k ≤ 512}) (fun q => [(10, .c (.v (.int .i64 (κ _ ((q.1 : Nat) : Int)))))]) (fun _ => [(3, .blk b3 24 [.v (.int .i64 c1), .v (.int .i64 c2), .v (.int .i64 c3), .v (.int .i64 c4), .v (.int .i64 c5), .v (.int .i64 c6), .v (.int .i64 c7), .v (.int .i64 c8), .v (.int .i64 c9)]), (7, .blk b7 31 [.v (.int .i64 (κ _ (remN (someL l) (⟨c1, c2, c3, c4, c5, c6, c7, c8, c9⟩ : Cl)).er)), .v (.int .i64 (κ _ (remN (someL l) (⟨c1, c2, c3, c4, c5, c6, c7, c8, c9⟩ : Cl)).v)), .v (.int .i64 (κ _ (remN (someL l) (⟨c1, c2, c3, c4, c5, c6, c7, c8, c9⟩ : Cl)).t.p)), .v (.bool (κ _ (remN (someL l) (⟨c1, c2, c3, c4, c5, c6, c7, c8, c9⟩ : Cl)).t.sh)), .v (.int .i64 (κ _ (remN (someL l) (⟨c1, c2, c3, c4, c5, c6, c7, c8, c9⟩ : Cl)).t.b)), .v (.int .i64 (κ _ (remN (someL l) (⟨c1, c2, c3, c4, c5, c6, c7, c8, c9⟩ : Cl)).t.o))]), (8, .blk b8 37 (κ _ (encS (ofL (someL l))))), (9, .blk b9 37 (κ _ (encS (ofL (remL (someL l) (⟨c1, c2, c3, c4, c5, c6, c7, c8, c9⟩ : Cl))))))]) (fun q => 512 - q.1) ⟨0, Nat.zero_le _⟩ [3, 7, 8, 9] ?_ (by decide) ?_ hκ ?_
  · cbv
    all_goals (subst hκ; delta kid; repeat' (first | exact rfl | exact trivial | refine And.intro ?_ ?_))
  · cbv
    all_goals (subst hκ; delta kid; repeat' (first | exact rfl | exact trivial | refine And.intro ?_ ?_ | (rw [zero_put (ofL_len _)]; rfl) | (rw [zero_put (ofL_len _)])))
  rintro ⟨k, hk⟩
  cbv
  refine tst_mk (fun h => ?_) (fun h => ?_)
  · have hx : k < 512 := by subst hκ; delta kid at h; have h2 : ((k : Nat) : Int) < 512 := of_decide_eq_true h; omega
    clear h
    cbv
    repeat' (first | refine And.intro ?_ ?_ | (intro _; cbv) | (refine tst_mk (fun h => ?_) (fun h => ?_) <;> cbv) | (refine LookX.nil ?_; cbv) | (refine LookX.auto hκ ?_; cbv) | (refine LookN.mk' (x := [.v (.bool (κ _ (nthP (ofL (someL l)) k).is)), .v (.int .i64 (κ _ (nthP (ofL (someL l)) k).t.p)), .v (.bool (κ _ (nthP (ofL (someL l)) k).t.sh)), .v (.int .i64 (κ _ (nthP (ofL (someL l)) k).t.b)), .v (.int .i64 (κ _ (nthP (ofL (someL l)) k).t.o))]) (by subst hκ; delta kid at *; exact page_take5 (ofL_len _) hx) ?_; cbv) | (refine LookN.mk' (x := [.v (.bool (κ _ (nthP (ofL (remL (someL l) (⟨c1, c2, c3, c4, c5, c6, c7, c8, c9⟩ : Cl))) k).is)), .v (.int .i64 (κ _ (nthP (ofL (remL (someL l) (⟨c1, c2, c3, c4, c5, c6, c7, c8, c9⟩ : Cl))) k).t.p)), .v (.bool (κ _ (nthP (ofL (remL (someL l) (⟨c1, c2, c3, c4, c5, c6, c7, c8, c9⟩ : Cl))) k).t.sh)), .v (.int .i64 (κ _ (nthP (ofL (remL (someL l) (⟨c1, c2, c3, c4, c5, c6, c7, c8, c9⟩ : Cl))) k).t.b)), .v (.int .i64 (κ _ (nthP (ofL (remL (someL l) (⟨c1, c2, c3, c4, c5, c6, c7, c8, c9⟩ : Cl))) k).t.o))]) (by subst hκ; delta kid at *; exact page_take5 (ofL_len _) hx) ?_; cbv))
    all_goals (try (show Side _; refine ⟨?_⟩; subst hκ; delta kid at *; first | exact rfl | exact trivial | exact ⟨rfl, rfl, .inl rfl⟩ | ((try dsimp only at *); (try simp only [setTo_len, noS_len, List.length_append, List.length_cons, List.length_nil, List.length_map, and_self, true_or, or_true, eq_self, true_and, and_true, Nat.zero_add, Nat.add_zero]); (first | done | omega); done)))
    all_goals (clear hH; subst hκ; delta kid at *; (try dsimp only at *))
    all_goals (try (exact ⟨page_ix hx⟩))
    all_goals (try (refine ⟨?_⟩; show 0 ≤ ((k : Nat) : Int) ∧ ((k : Nat) : Int) < 512; omega))
    all_goals (try simp only [Int.toNat_natCast] at *)
    all_goals (try (show IsX _ _ _; exfalso; have e := others_law (c := (⟨c1, c2, c3, c4, c5, c6, c7, c8, c9⟩ : Cl)) hr hx (by with_reducible assumption) (by with_reducible assumption); rw [e, eqP_self] at h; cases h))
    all_goals (refine ⟨⟨⟨k + 1, hx⟩, [3, 7, 8, 9], (by show 512 - (k + 1) < 512 - k; omega), by decide, ?_, ?_⟩⟩)
    all_goals repeat' (first | exact rfl | exact trivial | refine And.intro ?_ ?_ | exact congrArg (Value.int .i64) (nat_succ (by omega)))
  · cbv
    (clear hH; subst hκ; delta kid at *; (try dsimp only at *))
    exact IsX.val_ rfl
end Go.Proofs.Ytbcicjmepojlnaa.Eng
/- Contracts of functions (printed by genx.py of this work): what each hands back; condition: as its 'hside' says. -/
namespace Go.Proofs.Ytbcicjmepojlnaa.Eng
open Go Go.RowKit
set_option linter.unusedVariables false
set_option linter.unusedSimpArgs false
set_option maxRecDepth 100000 in
set_option maxHeartbeats 4000000 in
theorem k_remapThere (l : List Ar) (ka : Int) (pg : Int) (Al : Option Addr) (cl : Nat) (kl : l.length ≤ cl) (hside : U8 ka ∧ 0 ≤ pg ∧ pg ≤ 65535) (w : World) (hl : (Ent.rd Al 6 l.length (encL l)).holds w) :
    Calls Try.prog 34 #[.slice Al l.length cl, (SV.c (.v (.int .u8 ka))).den, (SV.c (.v (.int .u16 pg))).den] w fun e w' => ∃ v H', e = .returned v.den ∧ IsX (.val (.c (.v (.bool true)))) v H' ∧ HSat w (fun _ => False) H' w' := by
  obtain ⟨κ, hκ⟩ : ∃ κ : Kp, κ = kid := ⟨_, rfl⟩
  have hH : HSat w (fun _ => False) (heapOf [(nilId, .rd none 1 0 []), (200000, .rd Al 6 (κ _ l.length) (κ _ (encL l)))]) w := by
    subst hκ
    refine HSat.reads fun p hp => ?_
    simp only [List.mem_cons, List.not_mem_nil, or_false] at hp
    rcases hp with rfl | rfl
    · exact ⟨_, _, _, _, rfl, nil_holds w⟩
    · exact ⟨_, _, _, _, rfl, hl⟩
  refine (callsP (n := 116) FTok [e_awake12 hκ, e_some hκ, e_remap hκ, e_rsame hκ] mixed [] Try.func34 rfl (by kernel_rfl) #[.slice Al l.length cl, (SV.c (.v (.int .u8 ka))).den, (SV.c (.v (.int .u16 pg))).den] [(0, .c (.sl 200000 Al (κ _ l.length) cl)), (1, .c (.v (.int .u8 ka))), (2, .c (.v (.int .u16 pg)))] _ w rfl [.tmp 6] rfl (by simp) (by subst hκ; simp [SV.den, C.den, kid]) hH (fun v H' => IsX (.val (.c (.v (.bool true)))) v H') hκ ?_).mono ?_
  rotate_left
  · subst hκ; intro e w' h; exact h
  intro P' hP'
  cbv
  repeat' (first | refine And.intro ?_ ?_ | (intro _; cbv) | (refine tst_mk (fun h => ?_) (fun h => ?_) <;> cbv) | (refine LookX.nil ?_; cbv) | (refine LookX.auto hκ ?_; cbv) | (refine LookN.mk' (x := [.v (.int .i64 (κ _ (nthA (someL l) (ka.toNat % (someL l).length)).s)), .v (.int .i64 (κ _ (nthA (someL l) (ka.toNat % (someL l).length)).e)), .v (.int .i64 (κ _ (nthA (someL l) (ka.toNat % (someL l).length)).p)), .v (.bool (κ _ (nthA (someL l) (ka.toNat % (someL l).length)).sh)), .v (.int .i64 (κ _ (nthA (someL l) (ka.toNat % (someL l).length)).b)), .v (.int .i64 (κ _ (nthA (someL l) (ka.toNat % (someL l).length)).o))]) (by subst hκ; delta kid at *; exact pick_take hside.1 (by with_reducible assumption)) ?_; cbv))
  all_goals (try (show Side _; refine ⟨?_⟩; subst hκ; delta kid at *; first | exact rfl | exact trivial | exact ⟨rfl, rfl, .inl rfl⟩ | exact ⟨rfl, rfl, .inl rfl, kl⟩ | exact ⟨rfl, rfl, .inl rfl, encL_ok _⟩ | exact pick_in hside.1 (by with_reducible assumption) | ((try dsimp only at *); have z1 := madeL_le l; have z2 := someL_le l; (try simp only [maxLen]); have q0 : ¬ (30 : Int) < (l.length : Int) := of_decide_eq_false (by assumption); (try simp only [setTo_len, noS_len, List.length_append, List.length_cons, List.length_nil, List.length_map, and_self, true_or, or_true, eq_self, true_and, and_true, Nat.zero_add, Nat.add_zero]); (first | done | omega); done)))
  all_goals (try (show Side _; refine ⟨?_⟩; subst hκ; delta kid at *; first | exact beq_no (by with_reducible assumption) | exact pick_in hside.1 (by with_reducible assumption) | decide))
  all_goals (try (show IsX _ _ _; subst hκ; exact IsX.val_ rfl))
  rename_i h30 Ax cx b8
  have hmem : (nthA (someL l) (ka.toNat % (someL l).length)) ∈ someL l := by subst hκ; exact pick_mem hside.1 h
  refine loopP hP' FTok [e_remap hκ, e_rsame hκ] mixed [7, 8, 9, 10] (σ := {i : Nat // thOk (someL l) (thTo pg) (IntKind.i64.wrap ((nthA (someL l) (ka.toNat % (someL l).length)).e - (nthA (someL l) (ka.toNat % (someL l).length)).s)) i}) (fun q => [(11, .c (.v (.int .i64 (κ _ ((q.1 : Nat) : Int)))))]) (fun _ => [(25, .row Ax cx 53 6 (κ _ (someL l).length) (κ _ (encL (someL l)))), (8, .blk b8 53 [.v (.int .i64 (κ _ (nthA (someL l) (ka.toNat % (someL l).length)).s)), .v (.int .i64 (κ _ (nthA (someL l) (ka.toNat % (someL l).length)).e)), .v (.int .i64 (κ _ (nthA (someL l) (ka.toNat % (someL l).length)).p)), .v (.bool (κ _ (nthA (someL l) (ka.toNat % (someL l).length)).sh)), .v (.int .i64 (κ _ (nthA (someL l) (ka.toNat % (someL l).length)).b)), .v (.int .i64 (κ _ (nthA (someL l) (ka.toNat % (someL l).length)).o))])]) (fun q => (someL l).length - q.1) ⟨0, th_0 _ _ _⟩ [25, 8] ?_ (by decide) ?_ hκ ?_
  · cbv
    all_goals (subst hκ; delta kid; repeat' (first | exact rfl | exact trivial | refine And.intro ?_ ?_))
  · cbv
    all_goals (subst hκ; delta kid; repeat' (first | exact rfl | exact trivial | refine And.intro ?_ ?_))
  rintro ⟨i, hi⟩
  cbv
  refine tst_mk (fun h => ?_) (fun h => ?_)
  · have hx : i < (someL l).length := by subst hκ; delta kid at h; have h2 : (i : Int) < ((someL l).length : Int) := of_decide_eq_true h; omega
    clear h
    cbv
    repeat' (first | refine And.intro ?_ ?_ | (intro _; cbv) | (refine tst_mk (fun h => ?_) (fun h => ?_) <;> cbv) | (refine LookX.nil ?_; cbv) | (refine LookX.auto hκ ?_; cbv) | (refine LookR.mk' (x := .v (.int .i64 (κ _ (nthA (someL l) i).s))) (by subst hκ; delta kid at *; exact la_s hx) ?_; cbv) | (refine LookR.mk' (x := .v (.int .i64 (κ _ (nthA (someL l) i).e))) (by subst hκ; delta kid at *; exact la_e hx) ?_; cbv))
    all_goals (try (show Side _; refine ⟨?_⟩; subst hκ; delta kid at *; first | exact rfl | exact trivial | exact ⟨rfl, rfl, .inl rfl⟩ | ((try dsimp only at *); (try simp only [setTo_len, noS_len, List.length_append, List.length_cons, List.length_nil, List.length_map, and_self, true_or, or_true, eq_self, true_and, and_true, Nat.zero_add, Nat.add_zero]); (first | done | omega); done)))
    all_goals (clear hH; subst hκ; delta kid at *; (try dsimp only at *))
    all_goals (try (exact ⟨la_ix hx⟩))
    · exact IsX.val_ rfl
    · refine ⟨⟨⟨i + 1, th_next hi (.inr (by with_reducible assumption))⟩, [25, 8], (by show (someL l).length - (i + 1) < (someL l).length - i; omega), by decide, ?_, ?_⟩⟩
      all_goals repeat' (first | exact rfl | exact trivial | refine And.intro ?_ ?_ | exact congrArg (Value.int .i64) (nat_succ (by have := someL_le l; omega)))
    · refine ⟨⟨⟨i + 1, th_next hi (.inl (by with_reducible assumption))⟩, [25, 8], (by show (someL l).length - (i + 1) < (someL l).length - i; omega), by decide, ?_, ?_⟩⟩
      all_goals repeat' (first | exact rfl | exact trivial | refine And.intro ?_ ?_ | exact congrArg (Value.int .i64) (nat_succ (by have := someL_le l; omega)))
  · have hx : ¬ i < (someL l).length := by subst hκ; delta kid at h; have h2 : ¬ (i : Int) < ((someL l).length : Int) := of_decide_eq_false h; omega
    cbv
    repeat' (first | refine And.intro ?_ ?_ | (intro _; cbv) | (refine tst_mk (fun h => ?_) (fun h => ?_) <;> cbv) | (refine LookX.nil ?_; cbv) | (refine LookX.auto hκ ?_; cbv))
    all_goals (try (show Side _; refine ⟨?_⟩; subst hκ; delta kid at *; first | exact rfl | exact trivial | exact ⟨rfl, rfl, .inl rfl⟩ | exact ⟨rfl, rfl, .inl rfl, kl⟩ | exact ⟨rfl, rfl, .inl rfl, encL_ok _⟩ | exact pick_in hside.1 (by with_reducible assumption) | ((try dsimp only at *); have z1 := madeL_le l; have z2 := someL_le l; (try simp only [maxLen]); have q0 : ¬ (30 : Int) < (l.length : Int) := of_decide_eq_false (by assumption); (try simp only [setTo_len, noS_len, List.length_append, List.length_cons, List.length_nil, List.length_map, and_self, true_or, or_true, eq_self, true_and, and_true, Nat.zero_add, Nat.add_zero]); (first | done | omega); done)))
    all_goals (clear hH; subst hκ; delta kid at *; (try dsimp only at *))
    all_goals (try (show Side _; refine ⟨?_⟩; first | (simp only [rem_l1, rem_l2, rem_l3]; done) | exact rem_l4 _ (by with_reducible assumption)))
    all_goals (have kk := there_go (some_may l) hmem hside.2 hx hi (c := (⟨0, (nthA (someL l) (ka.toNat % (someL l).length)).s, IntKind.i64.wrap ((nthA (someL l) (ka.toNat % (someL l).length)).e - (nthA (someL l) (ka.toNat % (someL l).length)).s), IntKind.i64.wrap ((nthA (someL l) (ka.toNat % (someL l).length)).e - (nthA (someL l) (ka.toNat % (someL l).length)).s), thTo pg, 0, 17, 0, 0⟩ : Cl)) (d := (⟨0, thTo pg, IntKind.i64.wrap ((nthA (someL l) (ka.toNat % (someL l).length)).e - (nthA (someL l) (ka.toNat % (someL l).length)).s), IntKind.i64.wrap ((nthA (someL l) (ka.toNat % (someL l).length)).e - (nthA (someL l) (ka.toNat % (someL l).length)).s), (nthA (someL l) (ka.toNat % (someL l).length)).s, 0, 17, 0, 0⟩ : Cl)) rfl rfl)
    all_goals (show IsX _ _ _; refine IsX.bool_ ?_)
    all_goals (first | exact kk.1 (bne_yes (by with_reducible assumption)) | (have e := kk.2 (bne_no (by with_reducible assumption)); clear kk; obtain ⟨e1, e2, e3⟩ := e; (simp only [e1, e2, e3, okA, noAt] at *) <;> (first | done | rfl | exact sameL_self _ | (exfalso; rw [sameL_self] at h; cases h; done) | (exfalso; revert h; decide) | (exfalso; simp_all; done) | (simp_all; done))))
end Go.Proofs.Ytbcicjmepojlnaa.Eng
