/- Texts of this work, laid together: symbolic execution over the model, contracts of the program's functions, what they come to; conditions: as each says. -/
import Derived.Test.YtbcicjmepojlnaaPkKBO
import Derived.Test.YtbcicjmepojlnaaPkKLAA
/- Remap: what is kept, as the law asks; no condition but those typed. -/
namespace Go.Proofs.Ytbcicjmepojlnaa.Eng
open Go Go.RowKit
set_option autoImplicit false
set_option linter.unusedSimpArgs false
set_option linter.unusedVariables false
abbrev kpE (n : Int) : Int := IntKind.i64.wrap (Int.tdiv (IntKind.i64.wrap (n + 4095)) 4096)
theorem kpE_eq {n : Int} (h : sizeE n = 0) : 4096 * kpE n = sizeV n ∧ 1 ≤ kpE n ∧ kpE n ≤ 496 := by
  have h2 := (sizeE_iff n).1 h
  have e0 : IntKind.i64.wrap (n + 4095) = n + 4095 := w64_id (by unfold In64; omega)
  have e1 : IntKind.i64.wrap (Int.tdiv (n + 4095) 4096) = (n + 4095) / 4096 := by rw [Int.tdiv_eq_ediv_of_nonneg (by omega)]; exact w64_id (by unfold In64; omega)
  have e : kpE n = (n + 4095) / 4096 := by unfold kpE; rw [e0, e1]
  rw [e, sizeV_eq h2]
  omega
structure KpOk (x : List Ar) (c : Cl) : Prop where
  v : RgOk (remN x c).v ((remN x c).v + 4096 * kpE c.w)
  a : RgOk c.a (c.a + 4096 * kpE c.n)
  w1 : 1 ≤ kpE c.w ∧ kpE c.w ≤ 496
  n1 : 1 ≤ kpE c.n ∧ kpE c.n ≤ 496
theorem kp_ok {x : List Ar} {c : Cl} (h : (remN x c).er = 0) : KpOk x c := by
  obtain ⟨h0, hr, hm, _, _⟩ := rem_pages h
  obtain ⟨m1, _, m3, m4, _⟩ := rm_ok0 h0
  obtain ⟨r1, r2, r3, r4⟩ := range_ok m3
  obtain ⟨k1, k2⟩ := kpE_eq m4
  obtain ⟨n1, n2⟩ := kpE_eq r4
  refine ⟨by rw [k1]; exact hr, ?_, k2, n2⟩
  rw [n1, ← r3]
  rw [r2] at r1
  exact r1
section
variable {x : List Ar} {c : Cl} (h : (remN x c).er = 0)
include h
theorem kp_1 : decide ((remN x c).v < 65536) = false := by
  have k := (kp_ok h).v.lo
  rw [decide_eq_false_iff_not]
  omega
theorem kp_2 : decide (512 < IntKind.i64.wrap (IntKind.i64.wrap (Int.tdiv (remN x c).v 4096) + kpE c.w)) = false := by
  have k := kp_ok h
  have k1 := k.v.lo; have k2 := k.v.hi; have k3 := k.v.z; have k4 := k.w1
  rw [Int.tdiv_eq_ediv_of_nonneg (by omega), show IntKind.i64.wrap ((remN x c).v / 4096) = (remN x c).v / 4096 from w64_id (by unfold In64; omega), show IntKind.i64.wrap ((remN x c).v / 4096 + kpE c.w) = (remN x c).v / 4096 + kpE c.w from w64_id (by unfold In64; omega), decide_eq_false_iff_not]
  omega
theorem kp_3 : decide (c.a < 65536) = false := by
  have k := (kp_ok h).a.lo
  rw [decide_eq_false_iff_not]
  omega
theorem kp_4 : decide (512 < IntKind.i64.wrap (IntKind.i64.wrap (Int.tdiv c.a 4096) + kpE c.n)) = false := by
  have k := kp_ok h
  have k1 := k.a.lo; have k2 := k.a.hi; have k3 := k.a.z; have k4 := k.n1
  rw [Int.tdiv_eq_ediv_of_nonneg (by omega), show IntKind.i64.wrap (c.a / 4096) = c.a / 4096 from w64_id (by unfold In64; omega), show IntKind.i64.wrap (c.a / 4096 + kpE c.n) = c.a / 4096 + kpE c.n from w64_id (by unfold In64; omega), decide_eq_false_iff_not]
  omega
theorem kp_v {k : Nat} (hk : (k : Int) < kpE c.w) : IntKind.i64.wrap (IntKind.i64.wrap (Int.tdiv (remN x c).v 4096) + (k : Int)) = ((((remN x c).v / 4096).toNat + k : Nat) : Int) ∧ ((remN x c).v / 4096).toNat + k < 512 := by
  have q := kp_ok h
  have k1 := q.v.lo; have k2 := q.v.hi; have k3 := q.v.z; have k4 := q.w1
  rw [Int.tdiv_eq_ediv_of_nonneg (by omega), show IntKind.i64.wrap ((remN x c).v / 4096) = (remN x c).v / 4096 from w64_id (by unfold In64; omega), show IntKind.i64.wrap ((remN x c).v / 4096 + (k : Int)) = (remN x c).v / 4096 + (k : Int) from w64_id (by unfold In64; omega)]
  omega
theorem kp_a {k : Nat} (hk : (k : Int) < kpE c.n) : IntKind.i64.wrap (IntKind.i64.wrap (Int.tdiv c.a 4096) + (k : Int)) = (((c.a / 4096).toNat + k : Nat) : Int) ∧ (c.a / 4096).toNat + k < 512 := by
  have q := kp_ok h
  have k1 := q.a.lo; have k2 := q.a.hi; have k3 := q.a.z; have k4 := q.n1
  rw [Int.tdiv_eq_ediv_of_nonneg (by omega), show IntKind.i64.wrap (c.a / 4096) = c.a / 4096 from w64_id (by unfold In64; omega), show IntKind.i64.wrap (c.a / 4096 + (k : Int)) = c.a / 4096 + (k : Int) from w64_id (by unfold In64; omega)]
  omega
theorem kp_is {k : Nat} (hk : (k : Int) < kpE c.w) : (nthP (ofL (remL x c)) (((remN x c).v / 4096).toNat + k)).is = true := by
  obtain ⟨h0, hr, hm, hp, _⟩ := rem_pages h
  have q := kp_ok h
  have k1 := q.v.lo; have k2 := q.v.hi; have k3 := q.v.z
  have ew := (kpE_eq (rm_ok0 h0).2.2.2.1).1
  obtain ⟨t, ht, _⟩ := hp (4096 * (((remN x c).v / 4096).toNat + k : Nat)) (by omega) (by omega) (by omega)
  exact (has_of (mayS_rt hm).1.ok ht).1
theorem kp_eq {k : Nat} (hk : (k : Int) < kpE c.w) (hk2 : (k : Int) < kpE c.n) : nthP (ofL (remL x c)) (((remN x c).v / 4096).toNat + k) = nthP (ofL x) ((c.a / 4096).toNat + k) := by
  obtain ⟨h0, hr, hm, hp, _⟩ := rem_pages h
  have q := kp_ok h
  have k1 := q.v.lo; have k2 := q.v.hi; have k3 := q.v.z
  have j1 := q.a.lo; have j2 := q.a.hi; have j3 := q.a.z
  have ew := (kpE_eq (rm_ok0 h0).2.2.2.1).1
  obtain ⟨r1, r2, r3, r4⟩ := range_ok (rm_ok0 h0).2.2.1
  have en := (kpE_eq r4).1
  have hlo : rmLo c = c.a := r2
  have hhi : rmHi c = c.a + sizeV c.n := r3
  obtain ⟨t, ht, h2⟩ := hp (4096 * (((remN x c).v / 4096).toNat + k : Nat)) (by omega) (by omega) (by omega)
  have h3 := h2 (by rw [hlo, hhi]; omega)
  rw [hlo, show 4096 * ((((remN x c).v / 4096).toNat + k : Nat) : Int) - (remN x c).v + c.a = 4096 * (((c.a / 4096).toNat + k : Nat) : Int) by omega] at h3
  obtain ⟨a1, a2⟩ := has_of (mayS_rt hm).1.ok ht
  obtain ⟨b1, b2⟩ := has_of (rm_found h0).rt.ok h3
  generalize nthP (ofL (remL x c)) (((remN x c).v / 4096).toNat + k) = y at a1 a2 ⊢
  generalize nthP (ofL x) ((c.a / 4096).toNat + k) = z at b1 b2 ⊢
  cases y; cases z
  simp_all
end
theorem min_lt {k a b : Int} (h : decide (k < minI a b) = true) : k < a ∧ k < b := by
  have h := of_decide_eq_true h
  unfold minI at h
  split at h <;> omega
theorem page_takeQ {s : List Pg} (hs : s.length = 512) {X : Int} {q : Nat} (e : X = ((q : Nat) : Int)) (h : q < 512) : takeM (encS s) (0 + X.toNat * 5) 5 = some [.v (.bool (nthP s q).is), .v (.int .i64 (nthP s q).t.p), .v (.bool (nthP s q).t.sh), .v (.int .i64 (nthP s q).t.b), .v (.int .i64 (nthP s q).t.o)] := by
  rw [e]
  exact page_take5 hs h
theorem page_isQ {s : List Pg} (hs : s.length = 512) {X : Int} {q : Nat} (e : X = ((q : Nat) : Int)) (h : q < 512) : (encS s)[0 + X.toNat * 5]? = some (.v (.bool (nthP s q).is)) := by
  rw [e]
  exact page_is' hs h
theorem page_ixQ {X : Int} {q : Nat} (e : X = ((q : Nat) : Int)) (h : q < 512) : (0 : Int) ≤ X ∧ X < ((512 : Nat) : Int) := by
  rw [e]
  exact page_ix h
end Go.Proofs.Ytbcicjmepojlnaa.Eng
/- Contracts of functions (printed by genx.py of this work): what each hands back; condition: as its 'hside' says. -/
namespace Go.Proofs.Ytbcicjmepojlnaa.Eng
open Go Go.RowKit
set_option linter.unusedVariables false
set_option linter.unusedSimpArgs false
set_option maxRecDepth 100000 in
set_option maxHeartbeats 4000000 in
theorem k_remapKeeps (l : List Ar) (c1 : Int) (c2 : Int) (c3 : Int) (c4 : Int) (c5 : Int) (c6 : Int) (c7 : Int) (c8 : Int) (c9 : Int) (Al : Option Addr) (cl : Nat) (kl : l.length ≤ cl) (hside : True) (w : World) (hl : (Ent.rd Al 6 l.length (encL l)).holds w) :
    Calls Try.prog 37 #[.slice Al l.length cl, (SV.agg [.v (.int .i64 c1), .v (.int .i64 c2), .v (.int .i64 c3), .v (.int .i64 c4), .v (.int .i64 c5), .v (.int .i64 c6), .v (.int .i64 c7), .v (.int .i64 c8), .v (.int .i64 c9)]).den] w fun e w' => ∃ v H', e = .returned v.den ∧ IsX (.val (.c (.v (.bool true)))) v H' ∧ HSat w (fun _ => False) H' w' := by
  obtain ⟨κ, hκ⟩ : ∃ κ : Kp, κ = kid := ⟨_, rfl⟩
  have hH : HSat w (fun _ => False) (heapOf [(nilId, .rd none 1 0 []), (200000, .rd Al 6 (κ _ l.length) (κ _ (encL l)))]) w := by
    subst hκ
    refine HSat.reads fun p hp => ?_
    simp only [List.mem_cons, List.not_mem_nil, or_false] at hp
    rcases hp with rfl | rfl
    · exact ⟨_, _, _, _, rfl, nil_holds w⟩
    · exact ⟨_, _, _, _, rfl, hl⟩
  refine (callsP (n := 119) FTok [e_awake12 hκ, e_some hκ, e_remap hκ, e_of hκ, e_rsame hκ] mixed [(8, [[], [], [], [], [0, 1, 2, 3], [0, 1, 2, 3], [0, 1, 2, 3], [0, 1, 2, 3], [4, 5, 6, 7], []]), (14, [[], [], [], [0, 1, 2], [], [], [], [0, 1, 2, 3, 4, 5, 6], [0, 1, 2, 3, 4, 5, 6], [0, 1, 2, 3, 4, 5, 6], [0, 1, 2, 3, 4, 5, 6, 7, 8, 9], [0, 1, 2, 3, 4, 5, 6], [0, 1, 2, 3, 4, 5, 6], [0, 1, 2, 3, 4, 5, 6], [], [], [], [], [], [16, 17, 18], [], [], [], [], [], []])] Try.func37 rfl (by kernel_rfl) #[.slice Al l.length cl, (SV.agg [.v (.int .i64 c1), .v (.int .i64 c2), .v (.int .i64 c3), .v (.int .i64 c4), .v (.int .i64 c5), .v (.int .i64 c6), .v (.int .i64 c7), .v (.int .i64 c8), .v (.int .i64 c9)]).den] [(0, .c (.sl 200000 Al (κ _ l.length) cl)), (1, .agg [.v (.int .i64 c1), .v (.int .i64 c2), .v (.int .i64 c3), .v (.int .i64 c4), .v (.int .i64 c5), .v (.int .i64 c6), .v (.int .i64 c7), .v (.int .i64 c8), .v (.int .i64 c9)])] _ w rfl [.tmp 4] rfl (by simp) (by subst hκ; simp [SV.den, C.den, kid]) hH (fun v H' => IsX (.val (.c (.v (.bool true)))) v H') hκ ?_).mono ?_
  rotate_left
  · subst hκ; intro e w' h; exact h
  intro P' hP'
  cbv
  repeat' (first | refine And.intro ?_ ?_ | (intro _; cbv) | (refine tst_mk (fun h => ?_) (fun h => ?_) <;> cbv) | (refine LookX.nil ?_; cbv) | (refine LookX.auto hκ ?_; cbv))
  all_goals (try (show Side _; refine ⟨?_⟩; subst hκ; delta kid at *; first | exact rfl | exact trivial | exact ⟨rfl, rfl, .inl rfl⟩ | exact ⟨rfl, rfl, .inl rfl, kl⟩ | exact ⟨rfl, rfl, .inl rfl, encL_ok _⟩ | ((try dsimp only at *); have z1 := madeL_le l; have z2 := someL_le l; (try simp only [maxLen]); have q0 : ¬ (30 : Int) < (l.length : Int) := of_decide_eq_false (by assumption); (try simp only [setTo_len, noS_len, List.length_append, List.length_cons, List.length_nil, List.length_map, and_self, true_or, or_true, eq_self, true_and, and_true, Nat.zero_add, Nat.add_zero]); (first | done | omega); done)))
  all_goals (try (show Side _; refine ⟨?_⟩; subst hκ; delta kid at *; first | exact ⟨(some_rt l).1, Nat.le_trans (someL_le l) (by decide)⟩ | (with_reducible exact ⟨rem_fm (c := (⟨c1, c2, c3, c4, c5, c6, c7, c8, c9⟩ : Cl)) (bne_no (by with_reducible assumption)), rem_l1 _ _⟩) | (with_reducible exact rem_l2 _ _)))
  all_goals (try (show _ = true; subst hκ; delta kid; (have ho := encS_ok (ofL (someL l)); generalize encS (ofL (someL l)) = xs at ho ⊢; cases xs <;> exact ho)))
  all_goals (try (show 2560 = _; subst hκ; delta kid; (have ho := encS_len2 (s := ofL (someL l)) (ofL_len _); generalize encS (ofL (someL l)) = xs at ho ⊢; cases xs <;> exact ho.symm)))
  all_goals (try (show Side _; subst hκ; delta kid; refine ⟨?_⟩; rw [encS_noS, encS_len, encS_len, ofL_len _, noS_len]; omega))
  all_goals (try (show _ = true; subst hκ; delta kid; (have ho := encS_ok (ofL (remL (someL l) (⟨c1, c2, c3, c4, c5, c6, c7, c8, c9⟩ : Cl))); generalize encS (ofL (remL (someL l) (⟨c1, c2, c3, c4, c5, c6, c7, c8, c9⟩ : Cl))) = xs at ho ⊢; cases xs <;> exact ho)))
  all_goals (try (show 2560 = _; subst hκ; delta kid; (have ho := encS_len2 (s := ofL (remL (someL l) (⟨c1, c2, c3, c4, c5, c6, c7, c8, c9⟩ : Cl))) (ofL_len _); generalize encS (ofL (remL (someL l) (⟨c1, c2, c3, c4, c5, c6, c7, c8, c9⟩ : Cl))) = xs at ho ⊢; cases xs <;> exact ho.symm)))
  all_goals (try (show Side _; subst hκ; delta kid; refine ⟨?_⟩; rw [encS_noS, encS_len, encS_len, ofL_len _, noS_len]; omega))
  all_goals (try (show IsX _ _ _; (clear hH; subst hκ; delta kid at *; (try dsimp only at *)); first | exact IsX.val_ rfl | (refine IsX.bool_ ?_; have e := rem_self (l := someL l) (by with_reducible assumption); rw [e]; exact sameL_self _) | (exfalso; have e := bne_no (by with_reducible assumption : ((remN (someL l) (⟨c1, c2, c3, c4, c5, c6, c7, c8, c9⟩ : Cl)).er != 0) = false); first | (have e2 : true = false := (by with_reducible exact (h.symm.trans (kp_1 e))); cases e2; done) | (have e2 : true = false := (by with_reducible exact (h.symm.trans (kp_2 e))); cases e2; done) | (have e2 : true = false := (by with_reducible exact (h.symm.trans (kp_3 (c := (⟨c1, c2, c3, c4, c5, c6, c7, c8, c9⟩ : Cl)) e))); cases e2; done) | (have e2 : true = false := (by with_reducible exact (h.symm.trans (kp_4 (c := (⟨c1, c2, c3, c4, c5, c6, c7, c8, c9⟩ : Cl)) e))); cases e2; done))))
  rename_i b3 h30 Ax cx Ay cy b7 hE b8 b9 _ _ _
  have hr : (remN (someL l) (⟨c1, c2, c3, c4, c5, c6, c7, c8, c9⟩ : Cl)).er = 0 := by subst hκ; exact bne_no hE
  refine loopP hP' FTok [] mixed [3, 4, 7, 8, 9, 10, 11] (σ := {k : Nat // k ≤ 512}) (fun q => [(12, .c (.v (.int .i64 (κ _ ((q.1 : Nat) : Int)))))]) (fun _ => [(3, .blk b3 24 [.v (.int .i64 c1), .v (.int .i64 c2), .v (.int .i64 c3), .v (.int .i64 c4), .v (.int .i64 c5), .v (.int .i64 c6), .v (.int .i64 c7), .v (.int .i64 c8), .v (.int .i64 c9)]), (7, .blk b7 31 [.v (.int .i64 (κ _ (remN (someL l) (⟨c1, c2, c3, c4, c5, c6, c7, c8, c9⟩ : Cl)).er)), .v (.int .i64 (κ _ (remN (someL l) (⟨c1, c2, c3, c4, c5, c6, c7, c8, c9⟩ : Cl)).v)), .v (.int .i64 (κ _ (remN (someL l) (⟨c1, c2, c3, c4, c5, c6, c7, c8, c9⟩ : Cl)).t.p)), .v (.bool (κ _ (remN (someL l) (⟨c1, c2, c3, c4, c5, c6, c7, c8, c9⟩ : Cl)).t.sh)), .v (.int .i64 (κ _ (remN (someL l) (⟨c1, c2, c3, c4, c5, c6, c7, c8, c9⟩ : Cl)).t.b)), .v (.int .i64 (κ _ (remN (someL l) (⟨c1, c2, c3, c4, c5, c6, c7, c8, c9⟩ : Cl)).t.o))]), (8, .blk b8 37 (κ _ (encS (ofL (someL l))))), (9, .blk b9 37 (κ _ (encS (ofL (remL (someL l) (⟨c1, c2, c3, c4, c5, c6, c7, c8, c9⟩ : Cl))))))]) (fun q => 512 - q.1) ⟨0, Nat.zero_le _⟩ [3, 7, 8, 9] ?_ (by decide) ?_ hκ ?_
  · cbv
    all_goals (subst hκ; delta kid; repeat' (first | exact rfl | exact trivial | refine And.intro ?_ ?_))
  · cbv
    all_goals (subst hκ; delta kid; repeat' (first | exact rfl | exact trivial | refine And.intro ?_ ?_ | (rw [zero_put (ofL_len _)]; rfl) | (rw [zero_put (ofL_len _)])))
  rintro ⟨k, hk⟩
  cbv
  refine tst_mk (fun h => ?_) (fun h => ?_)
  · have hab : (k : Int) < kpE c3 ∧ (k : Int) < kpE c4 := by subst hκ; exact min_lt h
    clear h
    have ev := kp_v (c := (⟨c1, c2, c3, c4, c5, c6, c7, c8, c9⟩ : Cl)) hr hab.2
    have ea := kp_a (c := (⟨c1, c2, c3, c4, c5, c6, c7, c8, c9⟩ : Cl)) hr hab.1
    cbv
    repeat' (first | refine And.intro ?_ ?_ | (intro _; cbv) | (refine tst_mk (fun h => ?_) (fun h => ?_) <;> cbv) | (refine LookX.nil ?_; cbv) | (refine LookX.auto hκ ?_; cbv) | (refine LookN.mk' (x := [.v (.bool (κ _ (nthP (ofL (remL (someL l) (⟨c1, c2, c3, c4, c5, c6, c7, c8, c9⟩ : Cl))) (((remN (someL l) (⟨c1, c2, c3, c4, c5, c6, c7, c8, c9⟩ : Cl)).v / 4096).toNat + k)).is)), .v (.int .i64 (κ _ (nthP (ofL (remL (someL l) (⟨c1, c2, c3, c4, c5, c6, c7, c8, c9⟩ : Cl))) (((remN (someL l) (⟨c1, c2, c3, c4, c5, c6, c7, c8, c9⟩ : Cl)).v / 4096).toNat + k)).t.p)), .v (.bool (κ _ (nthP (ofL (remL (someL l) (⟨c1, c2, c3, c4, c5, c6, c7, c8, c9⟩ : Cl))) (((remN (someL l) (⟨c1, c2, c3, c4, c5, c6, c7, c8, c9⟩ : Cl)).v / 4096).toNat + k)).t.sh)), .v (.int .i64 (κ _ (nthP (ofL (remL (someL l) (⟨c1, c2, c3, c4, c5, c6, c7, c8, c9⟩ : Cl))) (((remN (someL l) (⟨c1, c2, c3, c4, c5, c6, c7, c8, c9⟩ : Cl)).v / 4096).toNat + k)).t.b)), .v (.int .i64 (κ _ (nthP (ofL (remL (someL l) (⟨c1, c2, c3, c4, c5, c6, c7, c8, c9⟩ : Cl))) (((remN (someL l) (⟨c1, c2, c3, c4, c5, c6, c7, c8, c9⟩ : Cl)).v / 4096).toNat + k)).t.o))]) (by subst hκ; delta kid at *; exact page_takeQ (ofL_len _) ev.1 ev.2) ?_; cbv) | (refine LookN.mk' (x := [.v (.bool (κ _ (nthP (ofL (someL l)) ((c2 / 4096).toNat + k)).is)), .v (.int .i64 (κ _ (nthP (ofL (someL l)) ((c2 / 4096).toNat + k)).t.p)), .v (.bool (κ _ (nthP (ofL (someL l)) ((c2 / 4096).toNat + k)).t.sh)), .v (.int .i64 (κ _ (nthP (ofL (someL l)) ((c2 / 4096).toNat + k)).t.b)), .v (.int .i64 (κ _ (nthP (ofL (someL l)) ((c2 / 4096).toNat + k)).t.o))]) (by subst hκ; delta kid at *; exact page_takeQ (ofL_len _) ea.1 ea.2) ?_; cbv) | (refine LookR.mk' (x := .v (.bool (κ _ (nthP (ofL (remL (someL l) (⟨c1, c2, c3, c4, c5, c6, c7, c8, c9⟩ : Cl))) (((remN (someL l) (⟨c1, c2, c3, c4, c5, c6, c7, c8, c9⟩ : Cl)).v / 4096).toNat + k)).is))) (by subst hκ; delta kid at *; exact page_isQ (ofL_len _) ev.1 ev.2) ?_; cbv))
    all_goals (try (show Side _; refine ⟨?_⟩; subst hκ; delta kid at *; first | exact rfl | exact trivial | exact ⟨rfl, rfl, .inl rfl⟩ | ((try dsimp only at *); (try simp only [setTo_len, noS_len, List.length_append, List.length_cons, List.length_nil, List.length_map, and_self, true_or, or_true, eq_self, true_and, and_true, Nat.zero_add, Nat.add_zero]); (first | done | omega); done)))
    all_goals (clear hH; subst hκ; delta kid at *; (try dsimp only at *))
    all_goals (try (first | exact ⟨page_ixQ ev.1 ev.2⟩ | exact ⟨page_ixQ ea.1 ea.2⟩))
    all_goals (try (show IsX _ _ _; exfalso; first | (have e := kp_is (c := (⟨c1, c2, c3, c4, c5, c6, c7, c8, c9⟩ : Cl)) hr hab.2; rw [e] at h; cases h; done) | (have e := kp_eq (c := (⟨c1, c2, c3, c4, c5, c6, c7, c8, c9⟩ : Cl)) hr hab.2 hab.1; rw [e, eqP_self] at h; cases h; done)))
    all_goals (refine ⟨⟨⟨k + 1, Nat.lt_of_le_of_lt (Nat.le_add_left _ _) ev.2⟩, [3, 7, 8, 9], Nat.sub_succ_lt_self _ _ (Nat.lt_of_le_of_lt (Nat.le_add_left _ _) ev.2), by decide, ?_, ?_⟩⟩)
    all_goals repeat' (first | exact rfl | exact trivial | refine And.intro ?_ ?_ | exact congrArg (Value.int .i64) (nat_succ (by omega)))
  · cbv
    refine loopP hP' FTok [] mixed [3, 4, 7, 8, 9, 10, 11] (σ := {k : Nat // k ≤ 512}) (fun q => [(13, .c (.v (.int .i64 (κ _ ((q.1 : Nat) : Int)))))]) (fun _ => [(3, .blk b3 24 [.v (.int .i64 c1), .v (.int .i64 c2), .v (.int .i64 c3), .v (.int .i64 c4), .v (.int .i64 c5), .v (.int .i64 c6), .v (.int .i64 c7), .v (.int .i64 c8), .v (.int .i64 c9)]), (7, .blk b7 31 [.v (.int .i64 (κ _ (remN (someL l) (⟨c1, c2, c3, c4, c5, c6, c7, c8, c9⟩ : Cl)).er)), .v (.int .i64 (κ _ (remN (someL l) (⟨c1, c2, c3, c4, c5, c6, c7, c8, c9⟩ : Cl)).v)), .v (.int .i64 (κ _ (remN (someL l) (⟨c1, c2, c3, c4, c5, c6, c7, c8, c9⟩ : Cl)).t.p)), .v (.bool (κ _ (remN (someL l) (⟨c1, c2, c3, c4, c5, c6, c7, c8, c9⟩ : Cl)).t.sh)), .v (.int .i64 (κ _ (remN (someL l) (⟨c1, c2, c3, c4, c5, c6, c7, c8, c9⟩ : Cl)).t.b)), .v (.int .i64 (κ _ (remN (someL l) (⟨c1, c2, c3, c4, c5, c6, c7, c8, c9⟩ : Cl)).t.o))]), (8, .blk b8 37 (κ _ (encS (ofL (someL l))))), (9, .blk b9 37 (κ _ (encS (ofL (remL (someL l) (⟨c1, c2, c3, c4, c5, c6, c7, c8, c9⟩ : Cl))))))]) (fun q => 512 - q.1) ⟨0, Nat.zero_le _⟩ [3, 7, 8, 9] ?_ (by decide) ?_ hκ ?_
    · cbv
      all_goals (subst hκ; delta kid; repeat' (first | exact rfl | exact trivial | refine And.intro ?_ ?_))
    · cbv
      all_goals (subst hκ; delta kid; repeat' (first | exact rfl | exact trivial | refine And.intro ?_ ?_))
    rintro ⟨k, hk⟩
    cbv
    refine tst_mk (fun h => ?_) (fun h => ?_)
    · have hab : (k : Int) < kpE c4 := by subst hκ; exact of_decide_eq_true h
      clear h
      have ev := kp_v (c := (⟨c1, c2, c3, c4, c5, c6, c7, c8, c9⟩ : Cl)) hr hab
      cbv
      repeat' (first | refine And.intro ?_ ?_ | (intro _; cbv) | (refine tst_mk (fun h => ?_) (fun h => ?_) <;> cbv) | (refine LookX.nil ?_; cbv) | (refine LookX.auto hκ ?_; cbv) | (refine LookN.mk' (x := [.v (.bool (κ _ (nthP (ofL (remL (someL l) (⟨c1, c2, c3, c4, c5, c6, c7, c8, c9⟩ : Cl))) (((remN (someL l) (⟨c1, c2, c3, c4, c5, c6, c7, c8, c9⟩ : Cl)).v / 4096).toNat + k)).is)), .v (.int .i64 (κ _ (nthP (ofL (remL (someL l) (⟨c1, c2, c3, c4, c5, c6, c7, c8, c9⟩ : Cl))) (((remN (someL l) (⟨c1, c2, c3, c4, c5, c6, c7, c8, c9⟩ : Cl)).v / 4096).toNat + k)).t.p)), .v (.bool (κ _ (nthP (ofL (remL (someL l) (⟨c1, c2, c3, c4, c5, c6, c7, c8, c9⟩ : Cl))) (((remN (someL l) (⟨c1, c2, c3, c4, c5, c6, c7, c8, c9⟩ : Cl)).v / 4096).toNat + k)).t.sh)), .v (.int .i64 (κ _ (nthP (ofL (remL (someL l) (⟨c1, c2, c3, c4, c5, c6, c7, c8, c9⟩ : Cl))) (((remN (someL l) (⟨c1, c2, c3, c4, c5, c6, c7, c8, c9⟩ : Cl)).v / 4096).toNat + k)).t.b)), .v (.int .i64 (κ _ (nthP (ofL (remL (someL l) (⟨c1, c2, c3, c4, c5, c6, c7, c8, c9⟩ : Cl))) (((remN (someL l) (⟨c1, c2, c3, c4, c5, c6, c7, c8, c9⟩ : Cl)).v / 4096).toNat + k)).t.o))]) (by subst hκ; delta kid at *; exact page_takeQ (ofL_len _) ev.1 ev.2) ?_; cbv) | (refine LookN.mk' (x := [.v (.bool (κ _ (nthP (ofL (someL l)) ((c2 / 4096).toNat + k)).is)), .v (.int .i64 (κ _ (nthP (ofL (someL l)) ((c2 / 4096).toNat + k)).t.p)), .v (.bool (κ _ (nthP (ofL (someL l)) ((c2 / 4096).toNat + k)).t.sh)), .v (.int .i64 (κ _ (nthP (ofL (someL l)) ((c2 / 4096).toNat + k)).t.b)), .v (.int .i64 (κ _ (nthP (ofL (someL l)) ((c2 / 4096).toNat + k)).t.o))]) (by subst hκ; delta kid at *; exact page_takeQ (ofL_len _) ea.1 ea.2) ?_; cbv) | (refine LookR.mk' (x := .v (.bool (κ _ (nthP (ofL (remL (someL l) (⟨c1, c2, c3, c4, c5, c6, c7, c8, c9⟩ : Cl))) (((remN (someL l) (⟨c1, c2, c3, c4, c5, c6, c7, c8, c9⟩ : Cl)).v / 4096).toNat + k)).is))) (by subst hκ; delta kid at *; exact page_isQ (ofL_len _) ev.1 ev.2) ?_; cbv))
      all_goals (try (show Side _; refine ⟨?_⟩; subst hκ; delta kid at *; first | exact rfl | exact trivial | exact ⟨rfl, rfl, .inl rfl⟩ | ((try dsimp only at *); (try simp only [setTo_len, noS_len, List.length_append, List.length_cons, List.length_nil, List.length_map, and_self, true_or, or_true, eq_self, true_and, and_true, Nat.zero_add, Nat.add_zero]); (first | done | omega); done)))
      all_goals (clear hH; subst hκ; delta kid at *; (try dsimp only at *))
      all_goals (try (exact ⟨page_ixQ ev.1 ev.2⟩))
      all_goals (try (show IsX _ _ _; exfalso; have e := kp_is (c := (⟨c1, c2, c3, c4, c5, c6, c7, c8, c9⟩ : Cl)) hr hab; rw [e] at h; cases h; done))
      all_goals (refine ⟨⟨⟨k + 1, Nat.lt_of_le_of_lt (Nat.le_add_left _ _) ev.2⟩, [3, 7, 8, 9], Nat.sub_succ_lt_self _ _ (Nat.lt_of_le_of_lt (Nat.le_add_left _ _) ev.2), by decide, ?_, ?_⟩⟩)
      all_goals repeat' (first | exact rfl | exact trivial | refine And.intro ?_ ?_ | exact congrArg (Value.int .i64) (nat_succ (by omega)))
    · cbv
      (clear hH; subst hκ; delta kid at *; (try dsimp only at *))
      exact IsX.val_ rfl
end Go.Proofs.Ytbcicjmepojlnaa.Eng
