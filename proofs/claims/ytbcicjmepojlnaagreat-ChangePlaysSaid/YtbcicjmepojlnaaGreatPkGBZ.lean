/- Texts of this work, laid together: symbolic execution over the model, contracts of the program's functions, what they come to; conditions: as each says. -/
import Derived.Test.YtbcicjmepojlnaaGreatPkGBV
/- Contracts of functions (printed by genx.py of this work): what each hands back; condition: as its 'hside' says. -/
namespace Go.Proofs.YtbcicjmepojlnaaGreat.Eng
open Go Go.RowKit
set_option linter.unusedVariables false
set_option linter.unusedSimpArgs false
theorem b_rbright : Bodied Tryz.prog 64 := bodied Tryz.func64 rfl (by decide)
def F_rbright : FunX := fun κ avs => match avs with
  | [.val (.c (.v (.int .i64 n)))] => some (κ _ (True), (.val (.c (.v (.bool (κ _ (brkR n)))))))
  | _ => none
set_option maxRecDepth 100000 in
set_option maxHeartbeats 4000000 in
theorem k_rbright (n : Int) (hside : True) (w : World) :
    Calls Tryz.prog 64 #[(SV.c (.v (.int .i64 n))).den] w fun e w' => ∃ v H', e = .returned v.den ∧ IsX (.val (.c (.v (.bool (brkR n))))) v H' ∧ HSat w (fun _ => False) H' w' := by
  obtain ⟨κ, hκ⟩ : ∃ κ : Kp, κ = kid := ⟨_, rfl⟩
  have hH : HSat w (fun _ => False) (heapOf [(nilId, .rd none 1 0 [])]) w := by
    subst hκ
    refine HSat.reads fun p hp => ?_
    simp only [List.mem_cons, List.not_mem_nil, or_false] at hp
    rcases hp with rfl
    · exact ⟨_, _, _, _, rfl, nil_holds w⟩
  refine (callsP (n := 9) FTok [] mixed [] Tryz.func64 rfl (by kernel_rfl) #[(SV.c (.v (.int .i64 n))).den] [(0, .c (.v (.int .i64 n)))] _ w rfl [.tmp 2] rfl (by simp) (by subst hκ; simp [SV.den, C.den, kid]) hH (fun v H' => IsX (.val (.c (.v (.bool (κ _ (brkR n)))))) v H') hκ ?_).mono ?_
  rotate_left
  · subst hκ; intro e w' h; exact h
  intro P' hP'
  cbv
  repeat' (first | refine And.intro ?_ ?_ | (intro _; cbv) | (refine tst_mk (fun h => ?_) (fun h => ?_) <;> cbv) | (refine LookX.nil ?_; cbv) | (refine LookX.auto hκ ?_; cbv))
  all_goals (try (show Side _; refine ⟨?_⟩; subst hκ; delta kid at *; first | exact rfl | exact trivial | exact ⟨rfl, rfl, .inl rfl⟩ | ((try dsimp only at *); (try simp only [setTo_len, noS_len, List.length_append, List.length_cons, List.length_nil, List.length_map, and_self, true_or, or_true, eq_self, true_and, and_true, Nat.zero_add, Nat.add_zero]); (first | done | omega); done)))
  all_goals (clear hH; subst hκ; delta kid at *; (try dsimp only at *))
  all_goals (try (exact ⟨trivial⟩))
  all_goals (try (exact ⟨by decide⟩))
  all_goals (show IsX _ _ _; refine IsX.val_ ?_; simp only [SV.den, SV.den0, C.den, List.map_cons, List.map_nil, brkR, GT.gt, GE.ge]; (try simp only [*, Bool.or_true, Bool.true_or, Bool.or_false, Bool.false_or, Bool.and_true, Bool.true_and, Bool.and_false, Bool.false_and, Bool.not_true, Bool.not_false, if_true, if_false, Bool.false_eq_true]); (first | done | rfl | (exfalso; simp_all; done) | skip))
def e_rbright {κ : Kp} (hκ : κ = kid) : ESpec Tryz.prog := fnES [.flat] b_rbright F_rbright hκ fun avs p r hF hp => by
  unfold F_rbright at hF
  split at hF
  case h_2 => cases hF
  rename_i n
  simp only [kid, Option.some.injEq, Prod.mk.injEq] at hF
  obtain ⟨rfl, rfl⟩ := hF
  refine ⟨trivial, fun vs w hR => ?_⟩
  obtain ⟨vs0, rfl, hR⟩ := hR
  have hR' : vs0 = [] := hR
  subst hR'
  exact k_rbright n hp w
theorem b_rend : Bodied Tryz.prog 65 := bodied Tryz.func65 rfl (by decide)
def F_rend : FunX := fun κ avs => match avs with
  | [.val (.c (.v (.int .i64 n)))] => some (κ _ (BrOk n), (.val (.c (.v (.int .i64 (κ _ (endB n)))))))
  | _ => none
set_option maxRecDepth 100000 in
set_option maxHeartbeats 4000000 in
theorem k_rend (n : Int) (hside : BrOk n) (w : World) :
    Calls Tryz.prog 65 #[(SV.c (.v (.int .i64 n))).den] w fun e w' => ∃ v H', e = .returned v.den ∧ IsX (.val (.c (.v (.int .i64 (endB n))))) v H' ∧ HSat w (fun _ => False) H' w' := by
  obtain ⟨κ, hκ⟩ : ∃ κ : Kp, κ = kid := ⟨_, rfl⟩
  have hH : HSat w (fun _ => False) (heapOf [(nilId, .rd none 1 0 [])]) w := by
    subst hκ
    refine HSat.reads fun p hp => ?_
    simp only [List.mem_cons, List.not_mem_nil, or_false] at hp
    rcases hp with rfl
    · exact ⟨_, _, _, _, rfl, nil_holds w⟩
  refine (callsP (n := 12) FTok [] mixed [] Tryz.func65 rfl (by kernel_rfl) #[(SV.c (.v (.int .i64 n))).den] [(0, .c (.v (.int .i64 n)))] _ w rfl [.tmp 2] rfl (by simp) (by subst hκ; simp [SV.den, C.den, kid]) hH (fun v H' => IsX (.val (.c (.v (.int .i64 (κ _ (endB n)))))) v H') hκ ?_).mono ?_
  rotate_left
  · subst hκ; intro e w' h; exact h
  intro P' hP'
  cbv
  repeat' (first | refine And.intro ?_ ?_ | (intro _; cbv) | (refine tst_mk (fun h => ?_) (fun h => ?_) <;> cbv) | (refine LookX.nil ?_; cbv) | (refine LookX.auto hκ ?_; cbv))
  all_goals (try (show Side _; refine ⟨?_⟩; subst hκ; delta kid at *; first | exact rfl | exact trivial | exact ⟨rfl, rfl, .inl rfl⟩ | ((try dsimp only at *); (try simp only [setTo_len, noS_len, List.length_append, List.length_cons, List.length_nil, List.length_map, and_self, true_or, or_true, eq_self, true_and, and_true, Nat.zero_add, Nat.add_zero]); (first | done | omega); done)))
  all_goals (clear hH; subst hκ; delta kid at *; (try dsimp only at *))
  all_goals (show IsX _ _ _; first | exact IsX.int_ (end_y hside (by with_reducible assumption)) | exact IsX.int_ (end_n hside (by with_reducible assumption)))
def e_rend {κ : Kp} (hκ : κ = kid) : ESpec Tryz.prog := fnES [.flat] b_rend F_rend hκ fun avs p r hF hp => by
  unfold F_rend at hF
  split at hF
  case h_2 => cases hF
  rename_i n
  simp only [kid, Option.some.injEq, Prod.mk.injEq] at hF
  obtain ⟨rfl, rfl⟩ := hF
  refine ⟨trivial, fun vs w hR => ?_⟩
  obtain ⟨vs0, rfl, hR⟩ := hR
  have hR' : vs0 = [] := hR
  subst hR'
  exact k_rend n hp w
theorem b_rbmove : Bodied Tryz.prog 23 := bodied Tryz.func23 rfl (by decide)
def F_rbmove : FunX := fun κ avs => match avs with
  | [.lst l xl, .val (.c (.v (.int .i64 m))), .val (.c (.v (.int .i64 q)))] => some (κ _ (mayS l = true ∧ brkR m = true), (.alt ((κ _ (brkSame l m q))) (xl) (fun x => .tup [.c x, .c (.v (.int .i64 (κ _ (brkV l m q)))), .agg [.v (.int .i64 (κ _ ((brkN l m q).er))), .v (.int .i64 (κ _ ((brkN l m q).v))), .v (.int .i64 (κ _ ((brkN l m q).t.p))), .v (.bool (κ _ ((brkN l m q).t.sh))), .v (.int .i64 (κ _ ((brkN l m q).t.b))), .v (.int .i64 (κ _ ((brkN l m q).t.o)))]]) ((κ _ (brkL l m q))) (fun x => .tup [.c x, .c (.v (.int .i64 (κ _ (brkV l m q)))), .agg [.v (.int .i64 (κ _ ((brkN l m q).er))), .v (.int .i64 (κ _ ((brkN l m q).v))), .v (.int .i64 (κ _ ((brkN l m q).t.p))), .v (.bool (κ _ ((brkN l m q).t.sh))), .v (.int .i64 (κ _ ((brkN l m q).t.b))), .v (.int .i64 (κ _ ((brkN l m q).t.o)))]])))
  | _ => none
set_option maxRecDepth 100000 in
set_option maxHeartbeats 4000000 in
theorem k_rbmove (l : List Ar) (m : Int) (q : Int) (Al : Option Addr) (cl : Nat) (hside : mayS l = true ∧ brkR m = true) (w : World) (hl : (Ent.rd Al 6 l.length (encL l)).holds w) :
    Calls Tryz.prog 23 #[.slice Al l.length cl, (SV.c (.v (.int .i64 m))).den, (SV.c (.v (.int .i64 q))).den] w fun e w' => ∃ v H', e = .returned v.den ∧ IsX (.alt ((brkSame l m q)) (.sl 200000 Al l.length cl) (fun x => .tup [.c x, .c (.v (.int .i64 (brkV l m q))), .agg [.v (.int .i64 ((brkN l m q).er)), .v (.int .i64 ((brkN l m q).v)), .v (.int .i64 ((brkN l m q).t.p)), .v (.bool ((brkN l m q).t.sh)), .v (.int .i64 ((brkN l m q).t.b)), .v (.int .i64 ((brkN l m q).t.o))]]) ((brkL l m q)) (fun x => .tup [.c x, .c (.v (.int .i64 (brkV l m q))), .agg [.v (.int .i64 ((brkN l m q).er)), .v (.int .i64 ((brkN l m q).v)), .v (.int .i64 ((brkN l m q).t.p)), .v (.bool ((brkN l m q).t.sh)), .v (.int .i64 ((brkN l m q).t.b)), .v (.int .i64 ((brkN l m q).t.o))]])) v H' ∧ HSat w (fun _ => False) H' w' := by
  obtain ⟨κ, hκ⟩ : ∃ κ : Kp, κ = kid := ⟨_, rfl⟩
  have hH : HSat w (fun _ => False) (heapOf [(nilId, .rd none 1 0 []), (200000, .rd Al 6 (κ _ l.length) (κ _ (encL l)))]) w := by
    subst hκ
    refine HSat.reads fun p hp => ?_
    simp only [List.mem_cons, List.not_mem_nil, or_false] at hp
    rcases hp with rfl | rfl
    · exact ⟨_, _, _, _, rfl, nil_holds w⟩
    · exact ⟨_, _, _, _, rfl, hl⟩
  refine (callsP (n := 79) FTok [e_rbright hκ, e_rend hκ, e_of hκ, e_rfree hκ, e_rwith hκ, e_rwithout hκ, e_rkept hκ] mixed [(14, [[], [0], [0, 1], [1, 2], [2], []]), (15, [[], [0], [0, 1], [1, 2], [2], []])] Tryz.func23 rfl (by kernel_rfl) #[.slice Al l.length cl, (SV.c (.v (.int .i64 m))).den, (SV.c (.v (.int .i64 q))).den] [(0, .c (.sl 200000 Al (κ _ l.length) cl)), (1, .c (.v (.int .i64 m))), (2, .c (.v (.int .i64 q)))] _ w rfl [.tmp 6, .tmp 7, .cell 8 33] rfl (by simp) (by subst hκ; simp [SV.den, C.den, kid]) hH (fun v H' => IsX (.alt ((κ _ (brkSame l m q))) (.sl 200000 Al (κ _ l.length) cl) (fun x => .tup [.c x, .c (.v (.int .i64 (κ _ (brkV l m q)))), .agg [.v (.int .i64 (κ _ ((brkN l m q).er))), .v (.int .i64 (κ _ ((brkN l m q).v))), .v (.int .i64 (κ _ ((brkN l m q).t.p))), .v (.bool (κ _ ((brkN l m q).t.sh))), .v (.int .i64 (κ _ ((brkN l m q).t.b))), .v (.int .i64 (κ _ ((brkN l m q).t.o)))]]) ((κ _ (brkL l m q))) (fun x => .tup [.c x, .c (.v (.int .i64 (κ _ (brkV l m q)))), .agg [.v (.int .i64 (κ _ ((brkN l m q).er))), .v (.int .i64 (κ _ ((brkN l m q).v))), .v (.int .i64 (κ _ ((brkN l m q).t.p))), .v (.bool (κ _ ((brkN l m q).t.sh))), .v (.int .i64 (κ _ ((brkN l m q).t.b))), .v (.int .i64 (κ _ ((brkN l m q).t.o)))]])) v H') hκ ?_).mono ?_
  rotate_left
  · subst hκ; intro e w' h; exact h
  intro P' hP'
  cbv
  have hrt := mayS_rt hside.1
  repeat' (first | refine And.intro ?_ ?_ | (intro _; cbv) | (refine tst_mk (fun h => ?_) (fun h => ?_) <;> first | (exfalso; subst hκ; delta kid at h; exact absurd h (by decide)) | (exfalso; subst hκ; delta kid at *; cases (h.symm.trans (by with_reducible assumption : _ = false)); done) | (exfalso; subst hκ; delta kid at *; cases (h.symm.trans (by with_reducible assumption : _ = true)); done) | (exfalso; subst hκ; delta kid at *; exact (beq_no (by with_reducible assumption)) (bne_no h)) | (exfalso; subst hκ; delta kid at *; exact (beq_no h) (beq_yes (by with_reducible assumption))) | (exfalso; subst hκ; delta kid at *; exact (beq_no (by with_reducible assumption)) (beq_yes h)) | cbv) | (refine LookX.nil ?_; cbv) | (refine LookX.auto hκ ?_; cbv) | (refine LookN.mk' (x := κ _ (encS (ofL l))) (by subst hκ; delta kid at *; exact (by rw [zero_put (ofL_len _)]; exact whole_take (ofL_len _))) ?_; cbv) | (refine LookN.mk' (x := κ _ (encS (withP (⟨3, false, 0, 0⟩ : At) (IntKind.i64.wrap (4096 * endB m) / 4096).toNat (ofL l) ((IntKind.i64.wrap (4096 * endB q) / 4096).toNat - (IntKind.i64.wrap (4096 * endB m) / 4096).toNat)))) (by subst hκ; delta kid at *; exact (by rw [zero_put (ofL_len _)]; exact whole_put ((withP_len _ _ _ _).trans (ofL_len l)) (ofL_len l))) ?_; cbv) | (refine LookN.mk' (x := κ _ (encS (woP (IntKind.i64.wrap (4096 * endB q) / 4096).toNat (ofL l) ((IntKind.i64.wrap (4096 * endB m) / 4096).toNat - (IntKind.i64.wrap (4096 * endB q) / 4096).toNat)))) (by subst hκ; delta kid at *; exact (by rw [zero_put (ofL_len _)]; exact whole_put ((woP_len _ _ _).trans (ofL_len l)) (ofL_len l))) ?_; cbv))
  all_goals (try (show Side _; refine ⟨?_⟩; subst hκ; delta kid at *; first | exact rfl | exact trivial | exact ⟨rfl, rfl, .inl rfl⟩ | exact (br_iff _).1 hside.2 | exact (br_iff _).1 (by with_reducible assumption) | exact ⟨hrt.1.1, by omega⟩ | exact ofL_len l | exact (withP_len _ _ _ _).trans (ofL_len l) | exact (woP_len _ _ _).trans (ofL_len l) | ((try dsimp only at *); (try simp only [setTo_len, noS_len, List.length_append, List.length_cons, List.length_nil, List.length_map, and_self, true_or, or_true, eq_self, true_and, and_true, Nat.zero_add, Nat.add_zero]); (first | done | omega); done)))
  all_goals (try (show _ = true; subst hκ; delta kid; (have ho := encS_ok (ofL l); generalize encS (ofL l) = xs at ho ⊢; cases xs <;> exact ho)))
  all_goals (try (show 2560 = _; subst hκ; delta kid; (have ho := encS_len2 (s := ofL l) (ofL_len l); generalize encS (ofL l) = xs at ho ⊢; cases xs <;> exact ho.symm)))
  all_goals (try (show Side _; subst hκ; delta kid; refine ⟨?_⟩; rw [encS_noS, encS_len, encS_len, ofL_len l, noS_len]; omega))
  all_goals (try (show _ = true; subst hκ; delta kid; (have ho := encS_ok ((withP (⟨3, false, 0, 0⟩ : At) (IntKind.i64.wrap (4096 * endB m) / 4096).toNat (ofL l) ((IntKind.i64.wrap (4096 * endB q) / 4096).toNat - (IntKind.i64.wrap (4096 * endB m) / 4096).toNat))); generalize encS ((withP (⟨3, false, 0, 0⟩ : At) (IntKind.i64.wrap (4096 * endB m) / 4096).toNat (ofL l) ((IntKind.i64.wrap (4096 * endB q) / 4096).toNat - (IntKind.i64.wrap (4096 * endB m) / 4096).toNat))) = xs at ho ⊢; cases xs <;> exact ho)))
  all_goals (try (show 2560 = _; subst hκ; delta kid; (have ho := encS_len2 (s := (withP (⟨3, false, 0, 0⟩ : At) (IntKind.i64.wrap (4096 * endB m) / 4096).toNat (ofL l) ((IntKind.i64.wrap (4096 * endB q) / 4096).toNat - (IntKind.i64.wrap (4096 * endB m) / 4096).toNat))) (((withP_len _ _ _ _).trans (ofL_len l))); generalize encS ((withP (⟨3, false, 0, 0⟩ : At) (IntKind.i64.wrap (4096 * endB m) / 4096).toNat (ofL l) ((IntKind.i64.wrap (4096 * endB q) / 4096).toNat - (IntKind.i64.wrap (4096 * endB m) / 4096).toNat))) = xs at ho ⊢; cases xs <;> exact ho.symm)))
  all_goals (try (show Side _; subst hκ; delta kid; refine ⟨?_⟩; rw [encS_noS, encS_len, encS_len, ((withP_len _ _ _ _).trans (ofL_len l)), noS_len]; omega))
  all_goals (try (show _ = true; subst hκ; delta kid; (have ho := encS_ok ((woP (IntKind.i64.wrap (4096 * endB q) / 4096).toNat (ofL l) ((IntKind.i64.wrap (4096 * endB m) / 4096).toNat - (IntKind.i64.wrap (4096 * endB q) / 4096).toNat))); generalize encS ((woP (IntKind.i64.wrap (4096 * endB q) / 4096).toNat (ofL l) ((IntKind.i64.wrap (4096 * endB m) / 4096).toNat - (IntKind.i64.wrap (4096 * endB q) / 4096).toNat))) = xs at ho ⊢; cases xs <;> exact ho)))
  all_goals (try (show 2560 = _; subst hκ; delta kid; (have ho := encS_len2 (s := (woP (IntKind.i64.wrap (4096 * endB q) / 4096).toNat (ofL l) ((IntKind.i64.wrap (4096 * endB m) / 4096).toNat - (IntKind.i64.wrap (4096 * endB q) / 4096).toNat))) (((woP_len _ _ _).trans (ofL_len l))); generalize encS ((woP (IntKind.i64.wrap (4096 * endB q) / 4096).toNat (ofL l) ((IntKind.i64.wrap (4096 * endB m) / 4096).toNat - (IntKind.i64.wrap (4096 * endB q) / 4096).toNat))) = xs at ho ⊢; cases xs <;> exact ho.symm)))
  all_goals (try (show Side _; subst hκ; delta kid; refine ⟨?_⟩; rw [encS_noS, encS_len, encS_len, ((woP_len _ _ _).trans (ofL_len l)), noS_len]; omega))
  all_goals (clear hH; subst hκ; delta kid at *; (try dsimp only at *))
  all_goals (try (show Side _; refine ⟨?_⟩; first | exact br_s1 hside.2 | exact br_s2 hside.2 (by with_reducible assumption) (by with_reducible assumption) | exact br_s3 hside.2 (by with_reducible assumption) (by with_reducible assumption) | exact put_fits (ofL_len l) ((withP_len _ _ _ _).trans (ofL_len l)) | exact put_fits (ofL_len l) ((woP_len _ _ _).trans (ofL_len l))))
  · have hb := bk_0 (l := l) (m := m) hside.1 hside.2 (by with_reducible assumption)
    refine IsX.same3 rfl (fun x => ?_) hb.2.2.2.2
    simp only [hb.2.1, hb.2.2.2.1, okA, noAt]
  · have he := bk_ok (l := l) (m := m) hside.1 hside.2 (w := q) (by with_reducible assumption) (by with_reducible assumption) (.inr (by with_reducible assumption))
    have hx := bk_k1 (l := l) (m := m) hside.1 hside.2 (w := q) (by with_reducible assumption) (by with_reducible assumption)
    have hb := bk_same (l := l) (m := m) hside.1 hside.2 (by with_reducible assumption) he hx (by with_reducible assumption)
    refine IsX.same3 rfl (fun x => ?_) hb.2.2
    simp only [hb.1, hb.2.1, errA, noAt]
  · have he := bk_ok (l := l) (m := m) hside.1 hside.2 (w := q) (by with_reducible assumption) (by with_reducible assumption) (.inr (by with_reducible assumption))
    have hx := bk_k1 (l := l) (m := m) hside.1 hside.2 (w := q) (by with_reducible assumption) (by with_reducible assumption)
    have hb := bk_new (l := l) (m := m) hside.1 hside.2 (by with_reducible assumption) he hx (by with_reducible assumption)
    refine IsX.new3 rfl rfl (fun x => ?_) hb.2.2.1 hb.2.2.2
    simp only [hb.1, hb.2.1, okA, noAt]
  · have he := bk_5 (l := l) (m := m) hside.1 hside.2 (w := q) (by with_reducible assumption) (by with_reducible assumption) (by with_reducible assumption) (by with_reducible assumption)
    have hb := bk_bad (l := l) (m := m) hside.1 hside.2 he (by decide)
    refine IsX.same3 rfl (fun x => ?_) hb.2.2.2
    simp only [hb.1, hb.2.2.1, errA, noAt]
  · have he := bk_ok (l := l) (m := m) hside.1 hside.2 (w := q) (by with_reducible assumption) (by with_reducible assumption) (.inl (by with_reducible assumption))
    have hx := bk_k2 (l := l) (m := m) hside.1 hside.2 (w := q) (by with_reducible assumption) (by with_reducible assumption)
    have hb := bk_same (l := l) (m := m) hside.1 hside.2 (by with_reducible assumption) he hx (by with_reducible assumption)
    refine IsX.same3 rfl (fun x => ?_) hb.2.2
    simp only [hb.1, hb.2.1, errA, noAt]
  · have he := bk_ok (l := l) (m := m) hside.1 hside.2 (w := q) (by with_reducible assumption) (by with_reducible assumption) (.inl (by with_reducible assumption))
    have hx := bk_k2 (l := l) (m := m) hside.1 hside.2 (w := q) (by with_reducible assumption) (by with_reducible assumption)
    have hb := bk_new (l := l) (m := m) hside.1 hside.2 (by with_reducible assumption) he hx (by with_reducible assumption)
    refine IsX.new3 rfl rfl (fun x => ?_) hb.2.2.1 hb.2.2.2
    simp only [hb.1, hb.2.1, okA, noAt]
  · have he := bk_4 (l := l) (m := m) hside.1 hside.2 (w := q) (by with_reducible assumption) (by with_reducible assumption)
    have hb := bk_bad (l := l) (m := m) hside.1 hside.2 he (by decide)
    refine IsX.same3 rfl (fun x => ?_) hb.2.2.2
    simp only [hb.1, hb.2.2.1, errA, noAt]
def e_rbmove {κ : Kp} (hκ : κ = kid) : ESpec Tryz.prog := fnES [.list, .flat, .flat] b_rbmove F_rbmove hκ fun avs p r hF hp => by
  unfold F_rbmove at hF
  split at hF
  case h_2 => cases hF
  rename_i l xl m q
  simp only [kid, Option.some.injEq, Prod.mk.injEq] at hF
  obtain ⟨rfl, rfl⟩ := hF
  refine ⟨fun x y h => by simp [SV.den, SV.den0, h], fun vs w hR => ?_⟩
  obtain ⟨il, Al, cl, vs0, rfl, rfl, hl, hR⟩ := hR
  obtain ⟨vs1, rfl, hR⟩ := hR
  obtain ⟨vs2, rfl, hR⟩ := hR
  have hR' : vs2 = [] := hR
  subst hR'
  exact (k_rbmove l m q Al cl hp w hl).mono fun e w' ⟨v, H', h1, h2, h3⟩ => ⟨v, H', h1, h2.swap rfl, h3⟩
end Go.Proofs.YtbcicjmepojlnaaGreat.Eng
