/- Texts of this work, laid together: symbolic execution over the model, contracts of the program's functions, what they come to; conditions: as each says. -/
import Derived.Test.YtbcicjmepojlnaaPkKBJ
/- Contracts of functions (printed by genx.py of this work): what each hands back; condition: as its 'hside' says. -/
namespace Go.Proofs.Ytbcicjmepojlnaa.Eng
open Go Go.RowKit
set_option linter.unusedVariables false
set_option linter.unusedSimpArgs false
theorem b_rone : Bodied Try.prog 139 := bodied Try.func139 rfl (by decide)
def F_rone : FunX := fun κ avs => match avs with
  | [.lst l xl, .val (.c (.v (.int .i64 lo))), .val (.c (.v (.int .i64 hi)))] => some (κ _ (Rt l ∧ l.length ≤ 300000), (.val (.tup [.c (.v (.int .i64 (κ _ (oneE l lo)))), .c (.v (.bool (κ _ (oneB l lo hi))))])))
  | _ => none
set_option maxRecDepth 100000 in
set_option maxHeartbeats 4000000 in
theorem k_rone (l : List Ar) (lo : Int) (hi : Int) (Al : Option Addr) (cl : Nat) (hside : Rt l ∧ l.length ≤ 300000) (w : World) (hl : (Ent.rd Al 6 l.length (encL l)).holds w) :
    Calls Try.prog 139 #[.slice Al l.length cl, (SV.c (.v (.int .i64 lo))).den, (SV.c (.v (.int .i64 hi))).den] w fun e w' => ∃ v H', e = .returned v.den ∧ IsX (.val (.tup [.c (.v (.int .i64 (oneE l lo))), .c (.v (.bool (oneB l lo hi)))])) v H' ∧ HSat w (fun _ => False) H' w' := by
  obtain ⟨κ, hκ⟩ : ∃ κ : Kp, κ = kid := ⟨_, rfl⟩
  have hH : HSat w (fun _ => False) (heapOf [(nilId, .rd none 1 0 []), (200000, .rd Al 6 (κ _ l.length) (κ _ (encL l)))]) w := by
    subst hκ
    refine HSat.reads fun p hp => ?_
    simp only [List.mem_cons, List.not_mem_nil, or_false] at hp
    rcases hp with rfl | rfl
    · exact ⟨_, _, _, _, rfl, nil_holds w⟩
    · exact ⟨_, _, _, _, rfl, hl⟩
  refine (callsP (n := 43) FTok [] mixed [(5, [[], [0], [], [], [], [0, 1, 2, 3, 4], [0, 1, 2, 3, 4, 5], [0, 1, 2, 3, 4], [0, 1, 2, 3, 4], [0, 1, 2, 3, 4], [0, 1, 2, 3, 4, 5, 6, 7, 8, 9], [0, 1, 2, 3, 4], [5, 6, 7, 8, 9, 10, 11], []])] Try.func139 rfl (by kernel_rfl) #[.slice Al l.length cl, (SV.c (.v (.int .i64 lo))).den, (SV.c (.v (.int .i64 hi))).den] [(0, .c (.sl 200000 Al (κ _ l.length) cl)), (1, .c (.v (.int .i64 lo))), (2, .c (.v (.int .i64 hi)))] _ w rfl [.tmp 6, .tmp 7] rfl (by simp) (by subst hκ; simp [SV.den, C.den, kid]) hH (fun v H' => IsX (.val (.tup [.c (.v (.int .i64 (κ _ (oneE l lo)))), .c (.v (.bool (κ _ (oneB l lo hi))))])) v H') hκ ?_).mono ?_
  rotate_left
  · subst hκ; intro e w' h; exact h
  intro P' hP'
  cbv
  repeat' (first | refine And.intro ?_ ?_ | (intro _; cbv) | (refine tst_mk (fun h => ?_) (fun h => ?_) <;> cbv) | (refine LookX.nil ?_; cbv) | (refine LookX.auto hκ ?_; cbv))
  refine loopP hP' FTok [] mixed [0, 1, 2, 6, 7] (σ := {i : Nat // ∀ j : Nat, j < i → hasA (nthA l j) lo = false}) (fun q => [(8, .c (.v (.int .i64 (κ _ ((q.1 : Nat) : Int)))))]) (fun _ => [(200000, .rd Al 6 (κ _ l.length) (κ _ (encL l)))]) (fun q => l.length - q.1) ⟨0, fun j hj => absurd hj (Nat.not_lt_zero j)⟩ [200000] ?_ (by decide) ?_ hκ ?_
  · cbv
    all_goals (subst hκ; delta kid; repeat' (first | exact rfl | exact trivial | refine And.intro ?_ ?_))
  · cbv
    all_goals (subst hκ; delta kid; repeat' (first | exact rfl | exact trivial | refine And.intro ?_ ?_))
  rintro ⟨i, hf⟩
  cbv
  refine tst_mk (fun h => ?_) (fun h => ?_)
  · have hx : i < l.length := by subst hκ; delta kid at h; have h2 : (i : Int) < (l.length : Int) := of_decide_eq_true h; omega
    cbv
    repeat' (first | refine And.intro ?_ ?_ | (intro _; cbv) | (refine tst_mk (fun h => ?_) (fun h => ?_) <;> cbv) | (refine LookX.nil ?_; cbv) | (refine LookX.auto hκ ?_; cbv) | (refine LookR.mk' (x := .v (.int .i64 (κ _ (nthA l i).s))) (by subst hκ; delta kid at *; exact la_s hx) ?_; cbv) | (refine LookR.mk' (x := .v (.int .i64 (κ _ (nthA l i).e))) (by subst hκ; delta kid at *; exact la_e hx) ?_; cbv))
    all_goals (try (show Side _; refine ⟨?_⟩; subst hκ; delta kid at *; first | exact rfl | exact trivial | exact ⟨rfl, rfl, .inl rfl⟩ | ((try dsimp only at *); (try simp only [setTo_len, noS_len, List.length_append, List.length_cons, List.length_nil, List.length_map, and_self, true_or, or_true, eq_self, true_and, and_true, Nat.zero_add, Nat.add_zero]); (first | done | omega); done)))
    all_goals (clear hH; subst hκ; delta kid at *; (try dsimp only at *))
    all_goals (try (exact ⟨la_ix hx⟩))
    · exact IsX.ib (one_y hside.1 hx hf (by with_reducible assumption) (by with_reducible assumption))
    · refine ⟨⟨⟨i + 1, has_next hf (one_n2 hside.1 hx (by with_reducible assumption))⟩, [200000], (by show l.length - (i + 1) < l.length - i; omega), by decide, ?_, ?_⟩⟩
      all_goals repeat' (first | exact rfl | exact trivial | refine And.intro ?_ ?_ | exact congrArg (Value.int .i64) (nat_succ (by omega)))
    · refine ⟨⟨⟨i + 1, has_next hf (one_n1 hside.1 hx (by with_reducible assumption))⟩, [200000], (by show l.length - (i + 1) < l.length - i; omega), by decide, ?_, ?_⟩⟩
      all_goals repeat' (first | exact rfl | exact trivial | refine And.intro ?_ ?_ | exact congrArg (Value.int .i64) (nat_succ (by omega)))
  · have hx : ¬ i < l.length := by subst hκ; delta kid at h; have h2 : ¬ (i : Int) < (l.length : Int) := of_decide_eq_false h; omega
    cbv
    (clear hH; subst hκ; delta kid at *; (try dsimp only at *))
    exact IsX.ib (one_end hx hf)
def e_rone {κ : Kp} (hκ : κ = kid) : ESpec Try.prog := fnES [.list, .flat, .flat] b_rone F_rone hκ fun avs p r hF hp => by
  unfold F_rone at hF
  split at hF
  case h_2 => cases hF
  rename_i l xl lo hi
  simp only [kid, Option.some.injEq, Prod.mk.injEq] at hF
  obtain ⟨rfl, rfl⟩ := hF
  refine ⟨trivial, fun vs w hR => ?_⟩
  obtain ⟨il, Al, cl, vs0, rfl, rfl, hl, hR⟩ := hR
  obtain ⟨vs1, rfl, hR⟩ := hR
  obtain ⟨vs2, rfl, hR⟩ := hR
  have hR' : vs2 = [] := hR
  subst hR'
  exact k_rone l lo hi Al cl hp w hl
theorem b_rmoved : Bodied Try.prog 140 := bodied Try.func140 rfl (by decide)
def F_rmoved : FunX := fun κ avs => match avs with
  | [.lst l xl, .val (.c (.v (.int .i64 lo))), .val (.c (.v (.int .i64 hi))), .val (.c (.v (.int .i64 pp))), .val (.c (.v (.int .i64 n))), .val (.c (.v (.bool st)))] => some (κ _ (MvOk l lo hi pp n ∧ l.length ≤ 300000), (.alt ((κ _ (decide ((24 : Int) < ((mvS l st lo hi (oldA l lo hi) pp n).length : Int))))) (xl) (fun x => .tup [.c x, .agg [.v (.int .i64 9), .v (.int .i64 0), .v (.int .i64 0), .v (.bool false), .v (.int .i64 0), .v (.int .i64 0)]]) ((κ _ (mvS l st lo hi (oldA l lo hi) pp n))) (fun x => .tup [.c x, .agg [.v (.int .i64 0), .v (.int .i64 (κ _ (pp))), .v (.int .i64 0), .v (.bool false), .v (.int .i64 0), .v (.int .i64 0)]])))
  | _ => none
set_option maxRecDepth 100000 in
set_option maxHeartbeats 4000000 in
theorem k_rmoved (l : List Ar) (lo : Int) (hi : Int) (pp : Int) (n : Int) (st : Bool) (Al : Option Addr) (cl : Nat) (hside : MvOk l lo hi pp n ∧ l.length ≤ 300000) (w : World) (hl : (Ent.rd Al 6 l.length (encL l)).holds w) :
    Calls Try.prog 140 #[.slice Al l.length cl, (SV.c (.v (.int .i64 lo))).den, (SV.c (.v (.int .i64 hi))).den, (SV.c (.v (.int .i64 pp))).den, (SV.c (.v (.int .i64 n))).den, (SV.c (.v (.bool st))).den] w fun e w' => ∃ v H', e = .returned v.den ∧ IsX (.alt ((decide ((24 : Int) < ((mvS l st lo hi (oldA l lo hi) pp n).length : Int)))) (.sl 200000 Al l.length cl) (fun x => .tup [.c x, .agg [.v (.int .i64 9), .v (.int .i64 0), .v (.int .i64 0), .v (.bool false), .v (.int .i64 0), .v (.int .i64 0)]]) ((mvS l st lo hi (oldA l lo hi) pp n)) (fun x => .tup [.c x, .agg [.v (.int .i64 0), .v (.int .i64 (pp)), .v (.int .i64 0), .v (.bool false), .v (.int .i64 0), .v (.int .i64 0)]])) v H' ∧ HSat w (fun _ => False) H' w' := by
  obtain ⟨κ, hκ⟩ : ∃ κ : Kp, κ = kid := ⟨_, rfl⟩
  have hH : HSat w (fun _ => False) (heapOf [(nilId, .rd none 1 0 []), (200000, .rd Al 6 (κ _ l.length) (κ _ (encL l)))]) w := by
    subst hκ
    refine HSat.reads fun p hp => ?_
    simp only [List.mem_cons, List.not_mem_nil, or_false] at hp
    rcases hp with rfl | rfl
    · exact ⟨_, _, _, _, rfl, nil_holds w⟩
    · exact ⟨_, _, _, _, rfl, hl⟩
  refine (callsP (n := 41) FTok [e_of hκ, e_rwithout hκ, e_rwith hκ, e_rkept hκ] mixed [] Try.func140 rfl (by kernel_rfl) #[.slice Al l.length cl, (SV.c (.v (.int .i64 lo))).den, (SV.c (.v (.int .i64 hi))).den, (SV.c (.v (.int .i64 pp))).den, (SV.c (.v (.int .i64 n))).den, (SV.c (.v (.bool st))).den] [(0, .c (.sl 200000 Al (κ _ l.length) cl)), (1, .c (.v (.int .i64 lo))), (2, .c (.v (.int .i64 hi))), (3, .c (.v (.int .i64 pp))), (4, .c (.v (.int .i64 n))), (5, .c (.v (.bool st)))] _ w rfl [.tmp 12, .cell 13 31] rfl (by simp) (by subst hκ; simp [SV.den, C.den, kid]) hH (fun v H' => IsX (.alt ((κ _ (decide ((24 : Int) < ((mvS l st lo hi (oldA l lo hi) pp n).length : Int))))) (.sl 200000 Al (κ _ l.length) cl) (fun x => .tup [.c x, .agg [.v (.int .i64 9), .v (.int .i64 0), .v (.int .i64 0), .v (.bool false), .v (.int .i64 0), .v (.int .i64 0)]]) ((κ _ (mvS l st lo hi (oldA l lo hi) pp n))) (fun x => .tup [.c x, .agg [.v (.int .i64 0), .v (.int .i64 (κ _ (pp))), .v (.int .i64 0), .v (.bool false), .v (.int .i64 0), .v (.int .i64 0)]])) v H') hκ ?_).mono ?_
  rotate_left
  · subst hκ; intro e w' h; exact h
  intro P' hP'
  cbv
  have hok := hside.1.fd.rt.ok
  repeat' (first | refine And.intro ?_ ?_ | (intro _; cbv) | (refine tst_mk (fun h => ?_) (fun h => ?_) <;> cbv) | (refine LookX.nil ?_; cbv) | (refine LookX.auto hκ ?_; cbv) | (refine LookN.mk' (x := [.v (.int .i64 (κ _ (pgT l lo).p)), .v (.bool (κ _ (pgT l lo).sh)), .v (.int .i64 (κ _ (pgT l lo).b)), .v (.int .i64 (κ _ (pgT l lo).o))]) (by subst hκ; delta kid at *; exact adr_attrZ (ofL_len l) (mv_adr hside.1).1 (mv_adr hside.1).2) ?_; cbv) | (refine LookN.mk' (x := κ _ (encS (ofL l))) (by subst hκ; delta kid at *; exact (by rw [zero_put (ofL_len _)]; exact whole_take (ofL_len _))) ?_; cbv) | (refine LookN.mk' (x := κ _ (encS (woP (lo / 4096).toNat (ofL l) ((hi / 4096).toNat - (lo / 4096).toNat)))) (by subst hκ; delta kid at *; exact (by rw [zero_put (ofL_len _)]; exact whole_put ((woP_len _ _ _).trans (ofL_len l)) (ofL_len l))) ?_; cbv))
  all_goals (try (show Side _; refine ⟨?_⟩; subst hκ; delta kid at *; first | exact rfl | exact trivial | exact ⟨rfl, rfl, .inl rfl⟩ | exact ⟨hok.1, by omega⟩ | exact mv_side1 hside.1 | exact mv_side2 hside.1 | exact ofL_len l | ((try dsimp only at *); (try simp only [setTo_len, noS_len, List.length_append, List.length_cons, List.length_nil, List.length_map, and_self, true_or, or_true, eq_self, true_and, and_true, Nat.zero_add, Nat.add_zero]); (first | done | omega); done)))
  all_goals (try (show _ = true; subst hκ; delta kid; (have ho := encS_ok (ofL l); generalize encS (ofL l) = xs at ho ⊢; cases xs <;> exact ho)))
  all_goals (try (show 2560 = _; subst hκ; delta kid; (have ho := encS_len2 (s := ofL l) (ofL_len l); generalize encS (ofL l) = xs at ho ⊢; cases xs <;> exact ho.symm)))
  all_goals (try (show _ = true; subst hκ; delta kid; (have ho := encS_ok (woP (lo / 4096).toNat (ofL l) ((hi / 4096).toNat - (lo / 4096).toNat)); generalize encS (woP (lo / 4096).toNat (ofL l) ((hi / 4096).toNat - (lo / 4096).toNat)) = xs at ho ⊢; cases xs <;> exact ho)))
  all_goals (try (show 2560 = _; subst hκ; delta kid; (have ho := encS_len2 (s := woP (lo / 4096).toNat (ofL l) ((hi / 4096).toNat - (lo / 4096).toNat)) (((woP_len _ _ _).trans (ofL_len l))); generalize encS (woP (lo / 4096).toNat (ofL l) ((hi / 4096).toNat - (lo / 4096).toNat)) = xs at ho ⊢; cases xs <;> exact ho.symm)))
  all_goals (try (show Side _; subst hκ; delta kid; refine ⟨?_⟩; rw [encS_noS, encS_len, encS_len, ((woP_len _ _ _).trans (ofL_len l)), noS_len]; omega))
  all_goals (clear hH; subst hκ; delta kid at *; (try dsimp only at *))
  all_goals (try (show Side _; refine ⟨?_⟩; first | exact put_fits (ofL_len l) ((woP_len _ _ _).trans (ofL_len l)) | exact (withP_len _ _ _ _).trans (ofL_len l) | exact (withP_len _ _ _ _).trans ((woP_len _ _ _).trans (ofL_len l)) | exact (woP_len _ _ _).trans (ofL_len l) | exact adr_in (mv_adr hside.1).1 (mv_adr hside.1).2 | exact zero_fits (ofL_len l)))
  all_goals (first | (have hst : st = true := (by with_reducible assumption); subst hst) | (have hst : st = false := (by with_reducible assumption); subst hst))
  all_goals (show IsX _ _ _; first | exact IsX.sameM rfl (fun x => rfl) (by rw [← mv_stay hside.1]; assumption) | exact IsX.newM rfl rfl (fun x => rfl) (by rw [← mv_stay hside.1]; assumption) (mv_stay hside.1) | exact IsX.sameM rfl (fun x => rfl) (by rw [← mv_go hside.1]; assumption) | exact IsX.newM rfl rfl (fun x => rfl) (by rw [← mv_go hside.1]; assumption) (mv_go hside.1))
def e_rmoved {κ : Kp} (hκ : κ = kid) : ESpec Try.prog := fnES [.list, .flat, .flat, .flat, .flat, .flat] b_rmoved F_rmoved hκ fun avs p r hF hp => by
  unfold F_rmoved at hF
  split at hF
  case h_2 => cases hF
  rename_i l xl lo hi pp n st
  simp only [kid, Option.some.injEq, Prod.mk.injEq] at hF
  obtain ⟨rfl, rfl⟩ := hF
  refine ⟨fun x y h => by simp [SV.den, SV.den0, h], fun vs w hR => ?_⟩
  obtain ⟨il, Al, cl, vs0, rfl, rfl, hl, hR⟩ := hR
  obtain ⟨vs1, rfl, hR⟩ := hR
  obtain ⟨vs2, rfl, hR⟩ := hR
  obtain ⟨vs3, rfl, hR⟩ := hR
  obtain ⟨vs4, rfl, hR⟩ := hR
  obtain ⟨vs5, rfl, hR⟩ := hR
  have hR' : vs5 = [] := hR
  subst hR'
  exact (k_rmoved l lo hi pp n st Al cl hp w hl).mono fun e w' ⟨v, H', h1, h2, h3⟩ => ⟨v, H', h1, h2.swap rfl, h3⟩
end Go.Proofs.Ytbcicjmepojlnaa.Eng
