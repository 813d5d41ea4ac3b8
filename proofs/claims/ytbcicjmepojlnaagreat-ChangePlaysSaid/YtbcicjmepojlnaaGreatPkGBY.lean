/- Texts of this work, laid together: symbolic execution over the model, contracts of the program's functions, what they come to; conditions: as each says. -/
import Derived.Test.YtbcicjmepojlnaaGreatPkGBT
import Derived.Test.YtbcicjmepojlnaaGreatPkGBX
/- Contracts of functions (printed by genx.py of this work): what each hands back; condition: as its 'hside' says. -/
namespace Go.Proofs.YtbcicjmepojlnaaGreat.Eng
open Go Go.RowKit
set_option linter.unusedVariables false
set_option linter.unusedSimpArgs false
theorem b_cstart : Bodied Tryz.prog 5 := bodied Tryz.func5 rfl (by decide)
def F_cstart : FunX := fun κ avs => match avs with
  | [] => some (κ _ (True), (.val (.agg [.sl nilId none 0 0, .v (.int .i64 65536)])))
  | _ => none
set_option maxRecDepth 100000 in
set_option maxHeartbeats 4000000 in
theorem k_cstart (hside : True) (w : World) :
    Calls Tryz.prog 5 #[] w fun e w' => ∃ v H', e = .returned v.den ∧ IsX (.val (.agg [.sl nilId none 0 0, .v (.int .i64 65536)])) v H' ∧ HSat w (fun _ => False) H' w' := by
  obtain ⟨κ, hκ⟩ : ∃ κ : Kp, κ = kid := ⟨_, rfl⟩
  have hH : HSat w (fun _ => False) (heapOf [(nilId, .rd none 1 0 [])]) w := by
    subst hκ
    refine HSat.reads fun p hp => ?_
    simp only [List.mem_cons, List.not_mem_nil, or_false] at hp
    rcases hp with rfl
    · exact ⟨_, _, _, _, rfl, nil_holds w⟩
  refine (callsP (n := 2) FTok [] mixed [] Tryz.func5 rfl (by kernel_rfl) #[] [] _ w rfl [.cell 0 26] rfl (by simp) (by subst hκ; simp [SV.den, C.den, kid]) hH (fun v H' => IsX (.val (.agg [.sl nilId none 0 0, .v (.int .i64 65536)])) v H') hκ ?_).mono ?_
  rotate_left
  · subst hκ; intro e w' h; exact h
  intro P' hP'
  cbv
  repeat' (first | refine And.intro ?_ ?_ | (intro _; cbv) | (refine tst_mk (fun h => ?_) (fun h => ?_) <;> cbv) | (refine LookX.nil ?_; cbv) | (refine LookX.auto hκ ?_; cbv))
  all_goals (exact IsX.val_ rfl)
def e_cstart {κ : Kp} (hκ : κ = kid) : ESpec Tryz.prog := fnES [] b_cstart F_cstart hκ fun avs p r hF hp => by
  unfold F_cstart at hF
  split at hF
  case h_2 => cases hF
  simp only [kid, Option.some.injEq, Prod.mk.injEq] at hF
  obtain ⟨rfl, rfl⟩ := hF
  refine ⟨trivial, fun vs w hR => ?_⟩
  have hR' : vs = [] := hR
  subst hR'
  exact k_cstart hp w
theorem b_csame : Bodied Tryz.prog 10 := bodied Tryz.func10 rfl (by decide)
def F_csame : FunX2 := fun κ avs => match avs with
  | [.spv l xl lb, .spv k xk kb] => some (κ _ (l.length ≤ 300000 ∧ k.length ≤ 300000), (.val (.c (.v (.bool (κ _ ((lb == kb) && sameL l k)))))))
  | _ => none
set_option maxRecDepth 100000 in
set_option maxHeartbeats 4000000 in
theorem k_csame (l : List Ar) (lb : Int) (k : List Ar) (kb : Int) (Al : Option Addr) (cl : Nat) (Ak : Option Addr) (ck : Nat) (hside : l.length ≤ 300000 ∧ k.length ≤ 300000) (w : World) (hl : (Ent.rd Al 6 l.length (encL l)).holds w) (hk : (Ent.rd Ak 6 k.length (encL k)).holds w) :
    Calls Tryz.prog 10 #[(SV.agg [.sl 200000 Al l.length cl, .v (.int .i64 lb)]).den, (SV.agg [.sl 200010 Ak k.length ck, .v (.int .i64 kb)]).den] w fun e w' => ∃ v H', e = .returned v.den ∧ IsX (.val (.c (.v (.bool ((lb == kb) && sameL l k))))) v H' ∧ HSat w (fun _ => False) H' w' := by
  obtain ⟨κ, hκ⟩ : ∃ κ : Kp, κ = kid := ⟨_, rfl⟩
  have hH : HSat w (fun _ => False) (heapOf [(nilId, .rd none 1 0 []), (200000, .rd Al 6 (κ _ l.length) (κ _ (encL l))), (200010, .rd Ak 6 (κ _ k.length) (κ _ (encL k)))]) w := by
    subst hκ
    refine HSat.reads fun p hp => ?_
    simp only [List.mem_cons, List.not_mem_nil, or_false] at hp
    rcases hp with rfl | rfl | rfl
    · exact ⟨_, _, _, _, rfl, nil_holds w⟩
    · exact ⟨_, _, _, _, rfl, hl⟩
    · exact ⟨_, _, _, _, rfl, hk⟩
  refine (callsP (n := 17) FTok [e_same hκ] mixed [] Tryz.func10 rfl (by kernel_rfl) #[(SV.agg [.sl 200000 Al l.length cl, .v (.int .i64 lb)]).den, (SV.agg [.sl 200010 Ak k.length ck, .v (.int .i64 kb)]).den] [(0, .agg [.sl 200000 Al (κ _ l.length) cl, .v (.int .i64 lb)]), (1, .agg [.sl 200010 Ak (κ _ k.length) ck, .v (.int .i64 kb)])] _ w rfl [.tmp 4] rfl (by simp) (by subst hκ; simp [SV.den, C.den, kid]) hH (fun v H' => IsX (.val (.c (.v (.bool (κ _ ((lb == kb) && sameL l k)))))) v H') hκ ?_).mono ?_
  rotate_left
  · subst hκ; intro e w' h; exact h
  intro P' hP'
  cbv
  repeat' (first | refine And.intro ?_ ?_ | (intro _; cbv) | (refine tst_mk (fun h => ?_) (fun h => ?_) <;> cbv) | (refine LookX.nil ?_; cbv) | (refine LookX.auto hκ ?_; cbv))
  all_goals (try (show Side _; refine ⟨?_⟩; subst hκ; delta kid at *; first | exact rfl | exact trivial | exact ⟨rfl, rfl, .inl rfl⟩ | ((try dsimp only at *); (try simp only [setTo_len, noS_len, List.length_append, List.length_cons, List.length_nil, List.length_map, and_self, true_or, or_true, eq_self, true_and, and_true, Nat.zero_add, Nat.add_zero]); (first | done | omega); done)))
  all_goals (clear hH; subst hκ; delta kid at *; (try dsimp only at *))
  all_goals (try (exact ⟨trivial⟩))
  all_goals (try (exact ⟨by decide⟩))
  all_goals (show IsX _ _ _; refine IsX.val_ ?_; simp only [SV.den, SV.den0, C.den, List.map_cons, List.map_nil, spR, GT.gt, GE.ge]; (try simp only [*, Bool.or_true, Bool.true_or, Bool.or_false, Bool.false_or, Bool.and_true, Bool.true_and, Bool.and_false, Bool.false_and, Bool.not_true, Bool.not_false, if_true, if_false, Bool.false_eq_true]); (first | done | rfl | (exfalso; simp_all; done) | skip))
def e_csame {κ : Kp} (hκ : κ = kid) : ESpec Tryz.prog := fn2ES [.sp, .sp] b_csame F_csame hκ fun avs p r hF hp => by
  unfold F_csame at hF
  split at hF
  case h_2 => cases hF
  rename_i l xl lb k xk kb
  simp only [kid, Option.some.injEq, Prod.mk.injEq] at hF
  obtain ⟨rfl, rfl⟩ := hF
  refine ⟨trivial, fun vs w hR => ?_⟩
  obtain ⟨il, Al, cl, vs0, rfl, rfl, hl, hR⟩ := hR
  obtain ⟨ik, Ak, ck, vs1, rfl, rfl, hk, hR⟩ := hR
  have hR' : vs1 = [] := hR
  subst hR'
  exact k_csame l lb k kb Al cl Ak ck hp w hl hk
end Go.Proofs.YtbcicjmepojlnaaGreat.Eng
/- Contracts of functions (printed by genx.py of this work): what each hands back; condition: as its 'hside' says. -/
namespace Go.Proofs.YtbcicjmepojlnaaGreat.Eng
open Go Go.RowKit
set_option linter.unusedVariables false
set_option linter.unusedSimpArgs false
theorem b_rone : Bodied Tryz.prog 60 := bodied Tryz.func60 rfl (by decide)
def F_rone : FunX := fun κ avs => match avs with
  | [.lst l xl, .val (.c (.v (.int .i64 lo))), .val (.c (.v (.int .i64 hi)))] => some (κ _ (Rt l ∧ l.length ≤ 300000), (.val (.tup [.c (.v (.int .i64 (κ _ (oneE l lo)))), .c (.v (.bool (κ _ (oneB l lo hi))))])))
  | _ => none
set_option maxRecDepth 100000 in
set_option maxHeartbeats 4000000 in
theorem k_rone (l : List Ar) (lo : Int) (hi : Int) (Al : Option Addr) (cl : Nat) (hside : Rt l ∧ l.length ≤ 300000) (w : World) (hl : (Ent.rd Al 6 l.length (encL l)).holds w) :
    Calls Tryz.prog 60 #[.slice Al l.length cl, (SV.c (.v (.int .i64 lo))).den, (SV.c (.v (.int .i64 hi))).den] w fun e w' => ∃ v H', e = .returned v.den ∧ IsX (.val (.tup [.c (.v (.int .i64 (oneE l lo))), .c (.v (.bool (oneB l lo hi)))])) v H' ∧ HSat w (fun _ => False) H' w' := by
  obtain ⟨κ, hκ⟩ : ∃ κ : Kp, κ = kid := ⟨_, rfl⟩
  have hH : HSat w (fun _ => False) (heapOf [(nilId, .rd none 1 0 []), (200000, .rd Al 6 (κ _ l.length) (κ _ (encL l)))]) w := by
    subst hκ
    refine HSat.reads fun p hp => ?_
    simp only [List.mem_cons, List.not_mem_nil, or_false] at hp
    rcases hp with rfl | rfl
    · exact ⟨_, _, _, _, rfl, nil_holds w⟩
    · exact ⟨_, _, _, _, rfl, hl⟩
  refine (callsP (n := 43) FTok [] mixed [(5, [[], [0], [], [], [], [0, 1, 2, 3, 4], [0, 1, 2, 3, 4, 5], [0, 1, 2, 3, 4], [0, 1, 2, 3, 4], [0, 1, 2, 3, 4], [0, 1, 2, 3, 4, 5, 6, 7, 8, 9], [0, 1, 2, 3, 4], [5, 6, 7, 8, 9, 10, 11], []])] Tryz.func60 rfl (by kernel_rfl) #[.slice Al l.length cl, (SV.c (.v (.int .i64 lo))).den, (SV.c (.v (.int .i64 hi))).den] [(0, .c (.sl 200000 Al (κ _ l.length) cl)), (1, .c (.v (.int .i64 lo))), (2, .c (.v (.int .i64 hi)))] _ w rfl [.tmp 6, .tmp 7] rfl (by simp) (by subst hκ; simp [SV.den, C.den, kid]) hH (fun v H' => IsX (.val (.tup [.c (.v (.int .i64 (κ _ (oneE l lo)))), .c (.v (.bool (κ _ (oneB l lo hi))))])) v H') hκ ?_).mono ?_
  rotate_left
  · subst hκ; intro e w' h; exact h
  intro P' hP'
  cbv
  repeat' (first | refine And.intro ?_ ?_ | (intro _; cbv) | (refine tst_mk (fun h => ?_) (fun h => ?_) <;> cbv) | (refine LookX.nil ?_; cbv) | (refine LookX.auto hκ ?_; cbv))
  refine loopP hP' FTok [] mixed [0, 1, 2, 6, 7] (σ := {i : Nat // ∀ j : Nat, j < i → hasA (nthA l j) lo = false}) (fun q => [(8, .c (.v (.int .i64 (κ _ ((q.1 : Nat) : Int)))))]) (fun _ => [(200000, .rd Al 6 (κ _ l.length) (κ _ (encL l)))]) (fun q => l.length - q.1) ⟨0, fun j hj => absurd hj (Nat.not_lt_zero j)⟩ [200000] ?_ (by decide) ?_ hκ ?_
  · cbv
    all_goals (subst hκ; delta kid; repeat' (first | exact rfl | exact trivial | refine And.intro ?_ ?_))
  · cbv
    all_goals (subst hκ; delta kid; repeat' (first | exact rfl | exact trivial | refine And.intro ?_ ?_))
  rintro ⟨i, hf⟩
  cbv
  refine tst_mk (fun h => ?_) (fun h => ?_)
  · have hx : i < l.length := by subst hκ; delta kid at h; have h2 : (i : Int) < (l.length : Int) := of_decide_eq_true h; omega
    cbv
    repeat' (first | refine And.intro ?_ ?_ | (intro _; cbv) | (refine tst_mk (fun h => ?_) (fun h => ?_) <;> cbv) | (refine LookX.nil ?_; cbv) | (refine LookX.auto hκ ?_; cbv) | (refine LookR.mk' (x := .v (.int .i64 (κ _ (nthA l i).s))) (by subst hκ; delta kid at *; exact la_s hx) ?_; cbv) | (refine LookR.mk' (x := .v (.int .i64 (κ _ (nthA l i).e))) (by subst hκ; delta kid at *; exact la_e hx) ?_; cbv))
    all_goals (try (show Side _; refine ⟨?_⟩; subst hκ; delta kid at *; first | exact rfl | exact trivial | exact ⟨rfl, rfl, .inl rfl⟩ | ((try dsimp only at *); (try simp only [setTo_len, noS_len, List.length_append, List.length_cons, List.length_nil, List.length_map, and_self, true_or, or_true, eq_self, true_and, and_true, Nat.zero_add, Nat.add_zero]); (first | done | omega); done)))
    all_goals (clear hH; subst hκ; delta kid at *; (try dsimp only at *))
    all_goals (try (exact ⟨la_ix hx⟩))
    · exact IsX.ib (one_y hside.1 hx hf (by with_reducible assumption) (by with_reducible assumption))
    · refine ⟨⟨⟨i + 1, has_next hf (one_n2 hside.1 hx (by with_reducible assumption))⟩, [200000], (by show l.length - (i + 1) < l.length - i; omega), by decide, ?_, ?_⟩⟩
      all_goals repeat' (first | exact rfl | exact trivial | refine And.intro ?_ ?_ | exact congrArg (Value.int .i64) (nat_succ (by omega)))
    · refine ⟨⟨⟨i + 1, has_next hf (one_n1 hside.1 hx (by with_reducible assumption))⟩, [200000], (by show l.length - (i + 1) < l.length - i; omega), by decide, ?_, ?_⟩⟩
      all_goals repeat' (first | exact rfl | exact trivial | refine And.intro ?_ ?_ | exact congrArg (Value.int .i64) (nat_succ (by omega)))
  · have hx : ¬ i < l.length := by subst hκ; delta kid at h; have h2 : ¬ (i : Int) < (l.length : Int) := of_decide_eq_false h; omega
    cbv
    (clear hH; subst hκ; delta kid at *; (try dsimp only at *))
    exact IsX.ib (one_end hx hf)
def e_rone {κ : Kp} (hκ : κ = kid) : ESpec Tryz.prog := fnES [.list, .flat, .flat] b_rone F_rone hκ fun avs p r hF hp => by
  unfold F_rone at hF
  split at hF
  case h_2 => cases hF
  rename_i l xl lo hi
  simp only [kid, Option.some.injEq, Prod.mk.injEq] at hF
  obtain ⟨rfl, rfl⟩ := hF
  refine ⟨trivial, fun vs w hR => ?_⟩
  obtain ⟨il, Al, cl, vs0, rfl, rfl, hl, hR⟩ := hR
  obtain ⟨vs1, rfl, hR⟩ := hR
  obtain ⟨vs2, rfl, hR⟩ := hR
  have hR' : vs2 = [] := hR
  subst hR'
  exact k_rone l lo hi Al cl hp w hl
theorem b_rmoved : Bodied Tryz.prog 61 := bodied Tryz.func61 rfl (by decide)
def F_rmoved : FunX := fun κ avs => match avs with
  | [.lst l xl, .val (.c (.v (.int .i64 lo))), .val (.c (.v (.int .i64 hi))), .val (.c (.v (.int .i64 pp))), .val (.c (.v (.int .i64 n))), .val (.c (.v (.bool st)))] => some (κ _ (MvOk l lo hi pp n ∧ l.length ≤ 300000), (.alt ((κ _ (decide ((24 : Int) < ((mvS l st lo hi (oldA l lo hi) pp n).length : Int))))) (xl) (fun x => .tup [.c x, .agg [.v (.int .i64 9), .v (.int .i64 0), .v (.int .i64 0), .v (.bool false), .v (.int .i64 0), .v (.int .i64 0)]]) ((κ _ (mvS l st lo hi (oldA l lo hi) pp n))) (fun x => .tup [.c x, .agg [.v (.int .i64 0), .v (.int .i64 (κ _ (pp))), .v (.int .i64 0), .v (.bool false), .v (.int .i64 0), .v (.int .i64 0)]])))
  | _ => none
set_option maxRecDepth 100000 in
set_option maxHeartbeats 4000000 in
theorem k_rmoved (l : List Ar) (lo : Int) (hi : Int) (pp : Int) (n : Int) (st : Bool) (Al : Option Addr) (cl : Nat) (hside : MvOk l lo hi pp n ∧ l.length ≤ 300000) (w : World) (hl : (Ent.rd Al 6 l.length (encL l)).holds w) :
    Calls Tryz.prog 61 #[.slice Al l.length cl, (SV.c (.v (.int .i64 lo))).den, (SV.c (.v (.int .i64 hi))).den, (SV.c (.v (.int .i64 pp))).den, (SV.c (.v (.int .i64 n))).den, (SV.c (.v (.bool st))).den] w fun e w' => ∃ v H', e = .returned v.den ∧ IsX (.alt ((decide ((24 : Int) < ((mvS l st lo hi (oldA l lo hi) pp n).length : Int)))) (.sl 200000 Al l.length cl) (fun x => .tup [.c x, .agg [.v (.int .i64 9), .v (.int .i64 0), .v (.int .i64 0), .v (.bool false), .v (.int .i64 0), .v (.int .i64 0)]]) ((mvS l st lo hi (oldA l lo hi) pp n)) (fun x => .tup [.c x, .agg [.v (.int .i64 0), .v (.int .i64 (pp)), .v (.int .i64 0), .v (.bool false), .v (.int .i64 0), .v (.int .i64 0)]])) v H' ∧ HSat w (fun _ => False) H' w' := by
  obtain ⟨κ, hκ⟩ : ∃ κ : Kp, κ = kid := ⟨_, rfl⟩
  have hH : HSat w (fun _ => False) (heapOf [(nilId, .rd none 1 0 []), (200000, .rd Al 6 (κ _ l.length) (κ _ (encL l)))]) w := by
    subst hκ
    refine HSat.reads fun p hp => ?_
    simp only [List.mem_cons, List.not_mem_nil, or_false] at hp
    rcases hp with rfl | rfl
    · exact ⟨_, _, _, _, rfl, nil_holds w⟩
    · exact ⟨_, _, _, _, rfl, hl⟩
  refine (callsP (n := 41) FTok [e_of hκ, e_rwithout hκ, e_rwith hκ, e_rkept hκ] mixed [] Tryz.func61 rfl (by kernel_rfl) #[.slice Al l.length cl, (SV.c (.v (.int .i64 lo))).den, (SV.c (.v (.int .i64 hi))).den, (SV.c (.v (.int .i64 pp))).den, (SV.c (.v (.int .i64 n))).den, (SV.c (.v (.bool st))).den] [(0, .c (.sl 200000 Al (κ _ l.length) cl)), (1, .c (.v (.int .i64 lo))), (2, .c (.v (.int .i64 hi))), (3, .c (.v (.int .i64 pp))), (4, .c (.v (.int .i64 n))), (5, .c (.v (.bool st)))] _ w rfl [.tmp 12, .cell 13 33] rfl (by simp) (by subst hκ; simp [SV.den, C.den, kid]) hH (fun v H' => IsX (.alt ((κ _ (decide ((24 : Int) < ((mvS l st lo hi (oldA l lo hi) pp n).length : Int))))) (.sl 200000 Al (κ _ l.length) cl) (fun x => .tup [.c x, .agg [.v (.int .i64 9), .v (.int .i64 0), .v (.int .i64 0), .v (.bool false), .v (.int .i64 0), .v (.int .i64 0)]]) ((κ _ (mvS l st lo hi (oldA l lo hi) pp n))) (fun x => .tup [.c x, .agg [.v (.int .i64 0), .v (.int .i64 (κ _ (pp))), .v (.int .i64 0), .v (.bool false), .v (.int .i64 0), .v (.int .i64 0)]])) v H') hκ ?_).mono ?_
  rotate_left
  · subst hκ; intro e w' h; exact h
  intro P' hP'
  cbv
  have hok := hside.1.fd.rt.ok
  repeat' (first | refine And.intro ?_ ?_ | (intro _; cbv) | (refine tst_mk (fun h => ?_) (fun h => ?_) <;> cbv) | (refine LookX.nil ?_; cbv) | (refine LookX.auto hκ ?_; cbv) | (refine LookN.mk' (x := [.v (.int .i64 (κ _ (pgT l lo).p)), .v (.bool (κ _ (pgT l lo).sh)), .v (.int .i64 (κ _ (pgT l lo).b)), .v (.int .i64 (κ _ (pgT l lo).o))]) (by subst hκ; delta kid at *; exact adr_attrZ (ofL_len l) (mv_adr hside.1).1 (mv_adr hside.1).2) ?_; cbv) | (refine LookN.mk' (x := κ _ (encS (ofL l))) (by subst hκ; delta kid at *; exact (by rw [zero_put (ofL_len _)]; exact whole_take (ofL_len _))) ?_; cbv) | (refine LookN.mk' (x := κ _ (encS (woP (lo / 4096).toNat (ofL l) ((hi / 4096).toNat - (lo / 4096).toNat)))) (by subst hκ; delta kid at *; exact (by rw [zero_put (ofL_len _)]; exact whole_put ((woP_len _ _ _).trans (ofL_len l)) (ofL_len l))) ?_; cbv))
  all_goals (try (show Side _; refine ⟨?_⟩; subst hκ; delta kid at *; first | exact rfl | exact trivial | exact ⟨rfl, rfl, .inl rfl⟩ | exact ⟨hok.1, by omega⟩ | exact mv_side1 hside.1 | exact mv_side2 hside.1 | exact ofL_len l | ((try dsimp only at *); (try simp only [setTo_len, noS_len, List.length_append, List.length_cons, List.length_nil, List.length_map, and_self, true_or, or_true, eq_self, true_and, and_true, Nat.zero_add, Nat.add_zero]); (first | done | omega); done)))
  all_goals (try (show _ = true; subst hκ; delta kid; (have ho := encS_ok (ofL l); generalize encS (ofL l) = xs at ho ⊢; cases xs <;> exact ho)))
  all_goals (try (show 2560 = _; subst hκ; delta kid; (have ho := encS_len2 (s := ofL l) (ofL_len l); generalize encS (ofL l) = xs at ho ⊢; cases xs <;> exact ho.symm)))
  all_goals (try (show _ = true; subst hκ; delta kid; (have ho := encS_ok (woP (lo / 4096).toNat (ofL l) ((hi / 4096).toNat - (lo / 4096).toNat)); generalize encS (woP (lo / 4096).toNat (ofL l) ((hi / 4096).toNat - (lo / 4096).toNat)) = xs at ho ⊢; cases xs <;> exact ho)))
  all_goals (try (show 2560 = _; subst hκ; delta kid; (have ho := encS_len2 (s := woP (lo / 4096).toNat (ofL l) ((hi / 4096).toNat - (lo / 4096).toNat)) (((woP_len _ _ _).trans (ofL_len l))); generalize encS (woP (lo / 4096).toNat (ofL l) ((hi / 4096).toNat - (lo / 4096).toNat)) = xs at ho ⊢; cases xs <;> exact ho.symm)))
  all_goals (try (show Side _; subst hκ; delta kid; refine ⟨?_⟩; rw [encS_noS, encS_len, encS_len, ((woP_len _ _ _).trans (ofL_len l)), noS_len]; omega))
  all_goals (clear hH; subst hκ; delta kid at *; (try dsimp only at *))
  all_goals (try (show Side _; refine ⟨?_⟩; first | exact put_fits (ofL_len l) ((woP_len _ _ _).trans (ofL_len l)) | exact (withP_len _ _ _ _).trans (ofL_len l) | exact (withP_len _ _ _ _).trans ((woP_len _ _ _).trans (ofL_len l)) | exact (woP_len _ _ _).trans (ofL_len l) | exact adr_in (mv_adr hside.1).1 (mv_adr hside.1).2 | exact zero_fits (ofL_len l)))
  all_goals (first | (have hst : st = true := (by with_reducible assumption); subst hst) | (have hst : st = false := (by with_reducible assumption); subst hst))
  all_goals (show IsX _ _ _; first | exact IsX.sameM rfl (fun x => rfl) (by rw [← mv_stay hside.1]; assumption) | exact IsX.newM rfl rfl (fun x => rfl) (by rw [← mv_stay hside.1]; assumption) (mv_stay hside.1) | exact IsX.sameM rfl (fun x => rfl) (by rw [← mv_go hside.1]; assumption) | exact IsX.newM rfl rfl (fun x => rfl) (by rw [← mv_go hside.1]; assumption) (mv_go hside.1))
def e_rmoved {κ : Kp} (hκ : κ = kid) : ESpec Tryz.prog := fnES [.list, .flat, .flat, .flat, .flat, .flat] b_rmoved F_rmoved hκ fun avs p r hF hp => by
  unfold F_rmoved at hF
  split at hF
  case h_2 => cases hF
  rename_i l xl lo hi pp n st
  simp only [kid, Option.some.injEq, Prod.mk.injEq] at hF
  obtain ⟨rfl, rfl⟩ := hF
  refine ⟨fun x y h => by simp [SV.den, SV.den0, h], fun vs w hR => ?_⟩
  obtain ⟨il, Al, cl, vs0, rfl, rfl, hl, hR⟩ := hR
  obtain ⟨vs1, rfl, hR⟩ := hR
  obtain ⟨vs2, rfl, hR⟩ := hR
  obtain ⟨vs3, rfl, hR⟩ := hR
  obtain ⟨vs4, rfl, hR⟩ := hR
  obtain ⟨vs5, rfl, hR⟩ := hR
  have hR' : vs5 = [] := hR
  subst hR'
  exact (k_rmoved l lo hi pp n st Al cl hp w hl).mono fun e w' ⟨v, H', h1, h2, h3⟩ => ⟨v, H', h1, h2.swap rfl, h3⟩
end Go.Proofs.YtbcicjmepojlnaaGreat.Eng
/- Remap: the reference's leaves; no condition but those typed. -/
namespace Go.Proofs.YtbcicjmepojlnaaGreat.Eng
open Go Go.RowKit
set_option autoImplicit false
set_option linter.unusedSimpArgs false
set_option linter.unusedVariables false
set_option linter.unusedSectionVars false
abbrev fxB (f : Int) : Bool := (Int.tmod f 2 == 1)
abbrev myB (f : Int) : Bool := (Int.tmod (IntKind.i64.wrap (Int.tdiv f 16)) 2 == 1)
abbrev stB (f : Int) : Bool := (Int.tmod (IntKind.i64.wrap (Int.tdiv f 32)) 2 == 1)
theorem rg_adr {a n : Int} (h : (rangeE a n != 0) = false) : decide (rangeLo a n < 65536) = false ∧ decide (2097152 ≤ rangeLo a n) = false := by
  have k := (range_ok (bne_no h)).1
  have h1 := k.lo; have h2 := k.hi; have h3 := k.lt
  exact ⟨by rw [decide_eq_false_iff_not]; omega, by rw [decide_eq_false_iff_not]; omega⟩
theorem eq_bne {x : Int} (h : (x == 0) = true) : (x != 0) = false := by unfold bne; rw [h]; rfl
section
variable {l : List Ar} {c : Cl} (hm : mayS l = true) (f1 : decide (c.f < 0) = false) (f2 : decide (63 < c.f) = false)
include hm f1 f2
theorem rmE_st (h : rmFl c.f = 0) (h2 : (rangeE c.a c.n != 0) = false) (h3 : (sizeE c.w != 0) = false) (h4 : stB c.f = true) (h5 : (sizeV c.w != IntKind.i64.wrap (rangeHi c.a c.n - rangeLo c.a c.n)) = true) : rmE l c = 1 :=
  rmE_dont hm h h2 h3 (by rw [← (rfl_is f1 f2).2.2.1]; exact h4) h5
theorem rmE0_st (h : rmFl c.f = 0) (h2 : (rangeE c.a c.n != 0) = false) (h3 : (sizeE c.w != 0) = false) (h4 : stB c.f = false ∨ (sizeV c.w != IntKind.i64.wrap (rangeHi c.a c.n - rangeLo c.a c.n)) = false) : rmE0 c = 0 :=
  rmE0_ok hm h h2 h3 (h4.imp (fun h => by rw [← (rfl_is f1 f2).2.2.1]; exact h) id)
variable (h0 : rmE l c = 0)
include h0
theorem rb_fix (hf : fxB c.f = true) : remN l c = kfN l c (rmLo c) (rmHi c) (sizeV c.w) (rmO l c) ∧ remL l c = kfL l c (rmLo c) (rmHi c) (sizeV c.w) (rmO l c) := by
  obtain ⟨q1, q2⟩ := rm_go h0
  have b : bitB c.f 1 = true := by rw [← (rfl_is f1 f2).1]; exact hf
  rw [q1, q2]
  unfold remM remK
  rw [if_pos b, if_pos b]
  exact ⟨rfl, rfl⟩
theorem rb_away (hf : fxB c.f = false) (hs : stB c.f = true) : remN l c = kaN l c.f (rmLo c) (rmHi c) (sizeV c.w) (rmO l c) ∧ remL l c = kaL l c.f (rmLo c) (rmHi c) (sizeV c.w) (rmO l c) := by
  obtain ⟨q1, q2⟩ := rm_go h0
  have b : bitB c.f 1 = false := by rw [← (rfl_is f1 f2).1]; exact hf
  have b2 : bitB c.f 32 = true := by rw [← (rfl_is f1 f2).2.2.1]; exact hs
  rw [q1, q2]
  unfold remM remK
  rw [b]
  simp only [Bool.false_eq_true, if_false]
  rw [if_pos b2, if_pos b2]
  exact ⟨rfl, rfl⟩
theorem rb_shrink (hf : fxB c.f = false) (hs : stB c.f = false) (hle : decide (sizeV c.w ≤ IntKind.i64.wrap (rmHi c - rmLo c)) = true) : remN l c = keptN (cutL l (IntKind.i64.wrap (rmLo c + sizeV c.w)) (rmHi c)) (rmLo c) ∧ remL l c = keptL l (cutL l (IntKind.i64.wrap (rmLo c + sizeV c.w)) (rmHi c)) := by
  obtain ⟨q1, q2⟩ := rm_go h0
  have b : bitB c.f 1 = false := by rw [← (rfl_is f1 f2).1]; exact hf
  have b2 : bitB c.f 32 = false := by rw [← (rfl_is f1 f2).2.2.1]; exact hs
  rw [q1, q2]
  unfold remM remK
  rw [b, b2]
  simp only [Bool.false_eq_true, if_false]
  rw [if_pos hle, if_pos hle]
  exact ⟨rfl, rfl⟩
theorem rb_grow (hf : fxB c.f = false) (hs : stB c.f = false) (hle : decide (sizeV c.w ≤ IntKind.i64.wrap (rmHi c - rmLo c)) = false) : remN l c = kgN l c.f (rmLo c) (rmHi c) (sizeV c.w) (rmW l c).e (rmO l c) ∧ remL l c = kgL l c.f (rmLo c) (rmHi c) (sizeV c.w) (rmW l c).e (rmO l c) := by
  obtain ⟨q1, q2⟩ := rm_go h0
  have b : bitB c.f 1 = false := by rw [← (rfl_is f1 f2).1]; exact hf
  have b2 : bitB c.f 32 = false := by rw [← (rfl_is f1 f2).2.2.1]; exact hs
  rw [q1, q2]
  unfold remM remK
  rw [b, b2]
  simp only [Bool.false_eq_true, if_false]
  rw [if_neg (by rw [hle]; simp), if_neg (by rw [hle]; simp)]
  exact ⟨rfl, rfl⟩
end
abbrev lgB (l : List Ar) (c : Cl) : Bool := ((pgT l (rmLo c)).b != 0 && decide (1099511627776 < IntKind.i64.wrap ((pgT l (rmLo c)).o + sizeV c.w)))
theorem lg_y {l : List Ar} {c : Cl} (h1 : ((pgT l (rmLo c)).b != 0) = true) (h2 : decide (1099511627776 < IntKind.i64.wrap ((pgT l (rmLo c)).o + sizeV c.w)) = true) : lgB l c = true := by unfold lgB; rw [h1, h2]; rfl
theorem lg_n {l : List Ar} {c : Cl} (h : ((pgT l (rmLo c)).b != 0) = false ∨ decide (1099511627776 < IntKind.i64.wrap ((pgT l (rmLo c)).o + sizeV c.w)) = false) : lgB l c = false := by
  unfold lgB
  rcases h with h | h <;> rw [h] <;> simp
structure ErrOk (l : List Ar) (c : Cl) (e : Int) : Prop where
  n : remN l c = errA e
  er : ((remN l c).er != 0) = true
theorem err_of {l : List Ar} {c : Cl} {e : Int} (h : remN l c = errA e) (he : (e != 0) = true) : ErrOk l c e := ⟨h, by rw [h]; exact he⟩
section
variable {l : List Ar} {c : Cl} (f1 : decide (c.f < 0) = false) (f2 : decide (63 < c.f) = false) (h0 : rmE l c = 0)
include f1 f2 h0
theorem fe_1 (hf : fxB c.f = true) (h : (rangeE c.to c.w != 0) = true) : ErrOk l c (rangeE c.to c.w) := by
  have k : kfE c (rmLo c) (rmHi c) (sizeV c.w) (rmO l c) = rangeE c.to c.w := by unfold kfE; rw [if_pos h]
  refine err_of ?_ h
  rw [(rb_fix (rm_ok0 h0).1 f1 f2 h0 hf).1]
  unfold kfN
  rw [k, if_pos h]
theorem fe_2 (hf : fxB c.f = true) (h : (rangeE c.to c.w != 0) = false) (h1 : decide (rangeLo c.to c.w < rmHi c) = true) (h2 : decide (rmLo c < rangeHi c.to c.w) = true) : ErrOk l c 1 := by
  have k : kfE c (rmLo c) (rmHi c) (sizeV c.w) (rmO l c) = 1 := by unfold kfE; rw [if_neg (by rw [h]; simp), if_pos]; rw [h1]; exact h2
  refine err_of ?_ (by decide)
  rw [(rb_fix (rm_ok0 h0).1 f1 f2 h0 hf).1]
  unfold kfN
  rw [k]
  rfl
theorem fk_ov (h : (rangeE c.to c.w != 0) = false) (h1 : decide (rangeLo c.to c.w < rmHi c) = false ∨ decide (rmLo c < rangeHi c.to c.w) = false) : kfE c (rmLo c) (rmHi c) (sizeV c.w) (rmO l c) = if lgB l c = true then 4 else 0 := by
  unfold kfE
  rw [if_neg (by rw [h]; simp), if_neg, rm_long h0]
  show ¬ (decide (rangeLo c.to c.w < rmHi c) && decide (rmLo c < rangeHi c.to c.w)) = true
  rcases h1 with h1 | h1 <;> rw [h1] <;> simp
theorem fe_4 (hf : fxB c.f = true) (h : (rangeE c.to c.w != 0) = false) (h1 : decide (rangeLo c.to c.w < rmHi c) = false ∨ decide (rmLo c < rangeHi c.to c.w) = false) (hl : lgB l c = true) : ErrOk l c 4 := by
  have k := fk_ov f1 f2 h0 h h1
  rw [if_pos hl] at k
  refine err_of ?_ (by decide)
  rw [(rb_fix (rm_ok0 h0).1 f1 f2 h0 hf).1]
  unfold kfN
  rw [k]
  rfl
theorem fx_go (hf : fxB c.f = true) (h : (rangeE c.to c.w != 0) = false) (h1 : decide (rangeLo c.to c.w < rmHi c) = false ∨ decide (rmLo c < rangeHi c.to c.w) = false) (hl : lgB l c = false) :
    MvOk l (rmLo c) (rmHi c) (rangeLo c.to c.w) (sizeV c.w) ∧ remN l c = keptN (mvS l (stB c.f) (rmLo c) (rmHi c) (rmO l c) (rangeLo c.to c.w) (sizeV c.w)) (rangeLo c.to c.w) ∧ remL l c = keptL l (mvS l (stB c.f) (rmLo c) (rmHi c) (rmO l c) (rangeLo c.to c.w) (sizeV c.w)) := by
  have k := fk_ov f1 f2 h0 h h1
  rw [if_neg (by rw [hl]; simp)] at k
  obtain ⟨q1, q2⟩ := rb_fix (rm_ok0 h0).1 f1 f2 h0 hf
  obtain ⟨r1, r2, r3, r4⟩ := range_ok (bne_no h)
  have rg : RgOk (rangeLo c.to c.w) (rangeLo c.to c.w + sizeV c.w) := by rw [r3] at r1; rw [r2] at r1 ⊢; exact r1
  refine ⟨mv_fo h0 rg (by rw [rm_long h0]; exact hl), ?_, ?_⟩
  · rw [q1, show stB c.f = bitB c.f 32 from (rfl_is f1 f2).2.2.1]
    unfold kfN
    rw [k, if_neg (by simp)]
    rfl
  · rw [q2, show stB c.f = bitB c.f 32 from (rfl_is f1 f2).2.2.1]
    unfold kfL
    rw [k, if_neg (by simp)]
    rfl
theorem sh_go (hf : fxB c.f = false) (hs : stB c.f = false) (hle : decide (sizeV c.w ≤ IntKind.i64.wrap (rmHi c - rmLo c)) = true) :
    listS (woP (IntKind.i64.wrap (rmLo c + sizeV c.w) / 4096).toNat (ofL l) ((rmHi c / 4096).toNat - (IntKind.i64.wrap (rmLo c + sizeV c.w) / 4096).toNat)) = cutL l (IntKind.i64.wrap (rmLo c + sizeV c.w)) (rmHi c) ∧ (0 ≤ IntKind.i64.wrap (rmLo c + sizeV c.w) ∧ IntKind.i64.wrap (rmLo c + sizeV c.w) ≤ rmHi c ∧ rmHi c ≤ 2097152) := by
  have k := rm_rg h0
  have h1 := k.lo; have h2 := k.hi; have h3 := k.lt; have h4 := k.z; have h5 := k.z2
  have hz := rm_sz h0
  have s1 := hz.lo; have s3 := hz.z
  have hle := of_decide_eq_true hle
  rw [show IntKind.i64.wrap (rmHi c - rmLo c) = rmHi c - rmLo c from rm_diff h0] at hle
  have e : IntKind.i64.wrap (rmLo c + sizeV c.w) = rmLo c + sizeV c.w := w64_id (by unfold In64; omega)
  have hrt := (rm_found h0).rt
  rw [e]
  refine ⟨?_, by omega, by omega, h2⟩
  by_cases hc : rmLo c + sizeV c.w < rmHi c
  · exact cut_pages hrt ⟨by omega, h2, hc, by omega, h5⟩
  · have he : rmLo c + sizeV c.w = rmHi c := by omega
    rw [he, Nat.sub_self]
    show listS (ofL l) = _
    rw [list_of hrt, ← cut_all (of_rt hrt) (by rw [decide_eq_true_eq]; omega), List.append_nil]
theorem ge_4 (hf : fxB c.f = false) (hs : stB c.f = false) (hle : decide (sizeV c.w ≤ IntKind.i64.wrap (rmHi c - rmLo c)) = false) (hl : lgB l c = true) : ErrOk l c 4 := by
  refine err_of ?_ (by decide)
  rw [(rb_grow (rm_ok0 h0).1 f1 f2 h0 hf hs hle).1]
  unfold kgN
  rw [rm_long h0, if_pos hl]
abbrev gwB (l : List Ar) (c : Cl) : Bool := (rmW l c).e == rmHi c && freeS (ofL l) (IntKind.i64.wrap (Int.tdiv (rmHi c) 4096)) (IntKind.i64.wrap (Int.tdiv (IntKind.i64.wrap (IntKind.i64.wrap (sizeV c.w - rmHi c) + rmLo c)) 4096))
theorem gw_is (hle : decide (sizeV c.w ≤ IntKind.i64.wrap (rmHi c - rmLo c)) = false) : growB l (rmLo c) (rmHi c) (sizeV c.w) (rmW l c).e = gwB l c := by
  have hle := of_decide_eq_false hle
  rw [show IntKind.i64.wrap (rmHi c - rmLo c) = rmHi c - rmLo c from rm_diff h0] at hle
  unfold growB gwB
  rw [(grow_is h0 hle).1]
theorem gw_go (hf : fxB c.f = false) (hs : stB c.f = false) (hle : decide (sizeV c.w ≤ IntKind.i64.wrap (rmHi c - rmLo c)) = false) (hl : lgB l c = false) (hg : gwB l c = true) :
    remN l c = keptN (putL l (growA (rmO l c) (rmLo c) (sizeV c.w))) (rmLo c) ∧ remL l c = keptL l (putL l (growA (rmO l c) (rmLo c) (sizeV c.w))) ∧ RgOk (rmLo c) (rmLo c + sizeV c.w) ∧
    listS (withP ⟨(pgT l (rmLo c)).p, (pgT l (rmLo c)).sh, (pgT l (rmLo c)).b, (pgT l (rmLo c)).o⟩ (rmLo c / 4096).toNat (ofL l) ((IntKind.i64.wrap (rmLo c + sizeV c.w) / 4096).toNat - (rmLo c / 4096).toNat)) = putL l (growA (rmO l c) (rmLo c) (sizeV c.w)) ∧ (0 ≤ rmLo c ∧ rmLo c ≤ IntKind.i64.wrap (rmLo c + sizeV c.w) ∧ IntKind.i64.wrap (rmLo c + sizeV c.w) ≤ 2097152) := by
  obtain ⟨q1, q2⟩ := rb_grow (rm_ok0 h0).1 f1 f2 h0 hf hs hle
  have hg' := gw_is f1 f2 h0 hle
  rw [hg] at hg'
  have hgt := of_decide_eq_false hle
  rw [show IntKind.i64.wrap (rmHi c - rmLo c) = rmHi c - rmLo c from rm_diff h0] at hgt
  have k := rm_rg h0
  have g1 := k.lo; have g2 := k.hi; have g3 := k.lt; have g4 := k.z; have g5 := k.z2
  have hz := rm_sz h0
  have s1 := hz.lo; have s2 := hz.hi; have s3 := hz.z
  have rg : RgOk (rmLo c) (rmLo c + sizeV c.w) := by
    have hg2 := hg'
    unfold growB at hg2
    rw [Bool.and_eq_true, (grow_is h0 hgt).2] at hg2
    have f := (fits_iff (rm_found h0).rt (by unfold In64; omega) (by unfold In64; omega)).1 hg2.2
    exact ⟨g1, by omega, by omega, g4, by omega⟩
  have hl' : longK (rmO l c).b (rmO l c).o (sizeV c.w) = false := by rw [rm_long h0]; exact hl
  have mv := mv_fo h0 rg hl'
  have es : (rmO l c).s = rmLo c := by
    show (partA (findL l (rmLo c)) (rmLo c) (rmHi c)).s = _
    rw [fd_part (rm_found h0)]
  have ea : growA (rmO l c) (rmLo c) (sizeV c.w) = mvA (rmO l c) (rmLo c) (sizeV c.w) := by unfold growA mvA; rw [es]
  refine ⟨?_, ?_, rg, ?_, mv_side2 mv⟩
  · rw [q1]
    unfold kgN
    rw [hl', hg', if_neg (by simp), if_pos rfl]
  · rw [q2]
    unfold kgL
    rw [hl', hg', if_neg (by simp), if_pos rfl]
  · rw [ea]
    exact mv_stay mv
theorem aw_all (hf : fxB c.f = false) (hc : stB c.f = true ∨ (stB c.f = false ∧ decide (sizeV c.w ≤ IntKind.i64.wrap (rmHi c - rmLo c)) = false ∧ lgB l c = false ∧ gwB l c = false ∧ myB c.f = true)) :
    longK (rmO l c).b (rmO l c).o (sizeV c.w) = false ∧ remN l c = kaN l c.f (rmLo c) (rmHi c) (sizeV c.w) (rmO l c) ∧ remL l c = kaL l c.f (rmLo c) (rmHi c) (sizeV c.w) (rmO l c) := by
  rcases hc with hs | ⟨hs, hle, hl, hg, hy⟩
  · obtain ⟨q1, q2⟩ := rb_away (rm_ok0 h0).1 f1 f2 h0 hf hs
    exact ⟨long_dont h0 (by rw [← (rfl_is f1 f2).2.2.1]; exact hs), q1, q2⟩
  · obtain ⟨q1, q2⟩ := rb_grow (rm_ok0 h0).1 f1 f2 h0 hf hs hle
    have hl' : longK (rmO l c).b (rmO l c).o (sizeV c.w) = false := by rw [rm_long h0]; exact hl
    have hb : bitB c.f 16 = true := by rw [← (rfl_is f1 f2).2.1]; exact hy
    have hg' := gw_is f1 f2 h0 hle
    rw [hg] at hg'
    refine ⟨hl', ?_, ?_⟩
    · rw [q1]
      unfold kgN
      rw [hl', hg', hb]
      simp only [Bool.false_eq_true, if_false, if_true]
    · rw [q2]
      unfold kgL
      rw [hl', hg', hb]
      simp only [Bool.false_eq_true, if_false, if_true]
theorem ae_5 (hf : fxB c.f = false) (hs : stB c.f = false) (hle : decide (sizeV c.w ≤ IntKind.i64.wrap (rmHi c - rmLo c)) = false) (hl : lgB l c = false) (hg : gwB l c = false) (hy : myB c.f = false) : ErrOk l c 5 := by
  refine err_of ?_ (by decide)
  have hg' := gw_is f1 f2 h0 hle
  rw [hg] at hg'
  have hb : bitB c.f 16 = false := by rw [← (rfl_is f1 f2).2.1]; exact hy
  rw [(rb_grow (rm_ok0 h0).1 f1 f2 h0 hf hs hle).1]
  unfold kgN
  rw [rm_long h0, hg', hb]
  show (if lgB l c = true then _ else _) = _
  rw [hl]
  rfl
theorem ae_6 (hf : fxB c.f = false) (hc : stB c.f = true ∨ (stB c.f = false ∧ decide (sizeV c.w ≤ IntKind.i64.wrap (rmHi c - rmLo c)) = false ∧ lgB l c = false ∧ gwB l c = false ∧ myB c.f = true)) (h : decide (chooseL l 65536 2097152 (sizeV c.w) true < 0) = true) : ErrOk l c 5 := by
  obtain ⟨q0, q1, q2⟩ := aw_all f1 f2 h0 hf hc
  have hp := (place0 (rm_ok0 h0).1 (rm_sz h0)).1 h
  refine err_of ?_ (by decide)
  rw [q1]
  unfold kaN
  rw [hp]
  rfl
theorem aw_go (hf : fxB c.f = false) (hc : stB c.f = true ∨ (stB c.f = false ∧ decide (sizeV c.w ≤ IntKind.i64.wrap (rmHi c - rmLo c)) = false ∧ lgB l c = false ∧ gwB l c = false ∧ myB c.f = true)) (h : decide (chooseL l 65536 2097152 (sizeV c.w) true < 0) = false) :
    MvOk l (rmLo c) (rmHi c) (chooseL l 65536 2097152 (sizeV c.w) true) (sizeV c.w) ∧ remN l c = keptN (mvS l (stB c.f) (rmLo c) (rmHi c) (rmO l c) (chooseL l 65536 2097152 (sizeV c.w) true) (sizeV c.w)) (chooseL l 65536 2097152 (sizeV c.w) true) ∧ remL l c = keptL l (mvS l (stB c.f) (rmLo c) (rmHi c) (rmO l c) (chooseL l 65536 2097152 (sizeV c.w) true) (sizeV c.w)) := by
  obtain ⟨q0, q1, q2⟩ := aw_all f1 f2 h0 hf hc
  obtain ⟨p1, p2, p3⟩ := (place0 (rm_ok0 h0).1 (rm_sz h0)).2 h
  rw [p2] at p3
  refine ⟨mv_fo h0 p3 q0, ?_, ?_⟩
  · rw [q1, show stB c.f = bitB c.f 32 from (rfl_is f1 f2).2.2.1]
    unfold kaN
    rw [p1, p2, if_neg (by simp)]
    rfl
  · rw [q2, show stB c.f = bitB c.f 32 from (rfl_is f1 f2).2.2.1]
    unfold kaL
    rw [p1, p2, if_neg (by simp)]
    rfl
end
section
variable {l : List Ar} {c : Cl} (h0 : rmE l c = 0)
include h0
theorem one_w : oneE l (rmLo c) = (rmW l c).e := by
  unfold oneE
  rw [if_pos (rm_found h0).fd]
theorem gw_y (h1 : (oneE l (rmLo c) == rmHi c) = true) (h2 : freeS (ofL l) (IntKind.i64.wrap (Int.tdiv (rmHi c) 4096)) (IntKind.i64.wrap (Int.tdiv (IntKind.i64.wrap (IntKind.i64.wrap (sizeV c.w - rmHi c) + rmLo c)) 4096)) = true) : gwB l c = true := by
  unfold gwB
  rw [← one_w h0, h1, h2]
  rfl
theorem gw_n (h : (oneE l (rmLo c) == rmHi c) = false ∨ freeS (ofL l) (IntKind.i64.wrap (Int.tdiv (rmHi c) 4096)) (IntKind.i64.wrap (Int.tdiv (IntKind.i64.wrap (IntKind.i64.wrap (sizeV c.w - rmHi c) + rmLo c)) 4096)) = false) : gwB l c = false := by
  unfold gwB
  rw [← one_w h0]
  rcases h with h | h <;> rw [h] <;> simp
theorem hi_q : IntKind.i64.wrap (Int.tdiv (rmHi c) 4096) ≤ 9223372036854775000 := by
  have k := rm_rg h0
  have h1 := k.lo; have h2 := k.hi; have h3 := k.lt
  rw [Int.tdiv_eq_ediv_of_nonneg (by omega), show IntKind.i64.wrap (rmHi c / 4096) = rmHi c / 4096 from w64_id (by unfold In64; omega)]
  omega
theorem sz_64 : In64 (sizeV c.w) := by
  have hz := rm_sz h0
  have s1 := hz.lo; have s2 := hz.hi
  unfold In64
  omega
end
end Go.Proofs.YtbcicjmepojlnaaGreat.Eng
