/- Texts of this work, laid together: symbolic execution over the model, contracts of the program's functions, what they come to; conditions: as each says. -/
import Derived.Test.YtbcicjmepojlnaaGreatPkGBF
/- Contracts of functions (printed by genx.py of this work): what each hands back; condition: as its 'hside' says. -/
namespace Go.Proofs.YtbcicjmepojlnaaGreat.Eng
open Go Go.RowKit
set_option linter.unusedVariables false
set_option linter.unusedSimpArgs false
theorem b_fits : Bodied Tryz.prog 74 := bodied Tryz.func74 rfl (by decide)
def F_fits : FunX := fun κ avs => match avs with
  | [.lst l xl, .val (.c (.v (.int .i64 a))), .val (.c (.v (.int .i64 n)))] => some (κ _ (l.length ≤ 300000), (.val (.c (.v (.bool (κ _ (fitsL l a n)))))))
  | _ => none
set_option maxRecDepth 100000 in
set_option maxHeartbeats 4000000 in
theorem k_fits (l : List Ar) (a : Int) (n : Int) (Al : Option Addr) (cl : Nat) (hside : l.length ≤ 300000) (w : World) (hl : (Ent.rd Al 6 l.length (encL l)).holds w) :
    Calls Tryz.prog 74 #[.slice Al l.length cl, (SV.c (.v (.int .i64 a))).den, (SV.c (.v (.int .i64 n))).den] w fun e w' => ∃ v H', e = .returned v.den ∧ IsX (.val (.c (.v (.bool (fitsL l a n))))) v H' ∧ HSat w (fun _ => False) H' w' := by
  obtain ⟨κ, hκ⟩ : ∃ κ : Kp, κ = kid := ⟨_, rfl⟩
  have hH : HSat w (fun _ => False) (heapOf [(nilId, .rd none 1 0 []), (200000, .rd Al 6 (κ _ l.length) (κ _ (encL l)))]) w := by
    subst hκ
    refine HSat.reads fun p hp => ?_
    simp only [List.mem_cons, List.not_mem_nil, or_false] at hp
    rcases hp with rfl | rfl
    · exact ⟨_, _, _, _, rfl, nil_holds w⟩
    · exact ⟨_, _, _, _, rfl, hl⟩
  refine (callsP (n := 47) FTok [e_gsize hκ, e_gaps hκ] mixed [] Tryz.func74 rfl (by kernel_rfl) #[.slice Al l.length cl, (SV.c (.v (.int .i64 a))).den, (SV.c (.v (.int .i64 n))).den] [(0, .c (.sl 200000 Al (κ _ l.length) cl)), (1, .c (.v (.int .i64 a))), (2, .c (.v (.int .i64 n)))] _ w rfl [.tmp 6] rfl (by simp) (by subst hκ; simp [SV.den, C.den, kid]) hH (fun v H' => IsX (.val (.c (.v (.bool (κ _ (fitsL l a n)))))) v H') hκ ?_).mono ?_
  rotate_left
  · subst hκ; intro e w' h; exact h
  intro P' hP'
  cbv
  repeat' (first | refine And.intro ?_ ?_ | (intro _; cbv) | (refine tst_mk (fun h => ?_) (fun h => ?_) <;> cbv) | (refine LookX.nil ?_; cbv) | (refine LookX.auto hκ ?_; cbv))
  all_goals (try (show Side _; refine ⟨?_⟩; subst hκ; delta kid at *; first | exact rfl | exact trivial | exact ⟨rfl, rfl, .inl rfl⟩ | ((try dsimp only at *); (try simp only [setTo_len, noS_len, List.length_append, List.length_cons, List.length_nil, List.length_map, and_self, true_or, or_true, eq_self, true_and, and_true, Nat.zero_add, Nat.add_zero]); (first | done | omega); done)))
  all_goals (try (show IsX _ _ _; (clear hH; subst hκ; delta kid at *; (try dsimp only at *)); first | exact IsX.bool_ (fits_a (by with_reducible assumption)).symm | exact IsX.bool_ (fits_b (by with_reducible assumption)).symm | exact IsX.bool_ (fits_c (by with_reducible assumption)).symm | exact IsX.bool_ (fits_d (by with_reducible assumption)).symm))
  rename_i h1 h2 h3 A2 c2
  have hf : fitsL l a n = (gapsL l).any (fitG a n) := by subst hκ; exact fits_e h1 h2 h3 h
  clear h1 h2 h3 h
  refine loopP hP' FTok [] mixed [1, 2, 28, 29] (σ := {i : Nat // NoneTo (fitG a n) (gapsL l) i}) (fun q => [(30, .c (.v (.int .i64 (κ _ ((q.1 : Nat) : Int)))))]) (fun _ => [(28, .row A2 c2 117 2 (κ _ (gapsL l).length) (κ _ (encG (gapsL l))))]) (fun q => (gapsL l).length - q.1) ⟨0, fun j hj => absurd hj (Nat.not_lt_zero j)⟩ [28] ?_ (by decide) ?_ hκ ?_
  · cbv
    all_goals (subst hκ; delta kid; repeat' (first | exact rfl | exact trivial | refine And.intro ?_ ?_))
  · cbv
    all_goals (subst hκ; delta kid; repeat' (first | exact rfl | exact trivial | refine And.intro ?_ ?_))
  rintro ⟨i, hi⟩
  cbv
  refine tst_mk (fun h => ?_) (fun h => ?_)
  · have hx : i < (gapsL l).length := by subst hκ; delta kid at h; have h2 : (i : Int) < ((gapsL l).length : Int) := of_decide_eq_true h; omega
    have hgl := gapsL_len hside
    cbv
    repeat' (first | refine And.intro ?_ ?_ | (intro _; cbv) | (refine tst_mk (fun h => ?_) (fun h => ?_) <;> cbv) | (refine LookX.nil ?_; cbv) | (refine LookX.auto hκ ?_; cbv) | (refine LookN.mk' (x := [.v (.int .i64 (κ _ (nthG (gapsL l) i).s)), .v (.int .i64 (κ _ (nthG (gapsL l) i).e))]) (by subst hκ; delta kid at *; exact g_take hx) ?_; cbv))
    all_goals (try (show Side _; refine ⟨?_⟩; subst hκ; delta kid at *; first | exact rfl | exact trivial | exact ⟨rfl, rfl, .inl rfl⟩ | ((try dsimp only at *); (try simp only [setTo_len, noS_len, List.length_append, List.length_cons, List.length_nil, List.length_map, and_self, true_or, or_true, eq_self, true_and, and_true, Nat.zero_add, Nat.add_zero]); (first | done | omega); done)))
    all_goals (clear hH; subst hκ; delta kid at *; (try dsimp only at *))
    all_goals (try (exact ⟨g_ix hx⟩))
    · exact IsX.bool_ (hf.trans (any_here hx (fitG_y (by with_reducible assumption) (by with_reducible assumption)))).symm
    · refine ⟨⟨⟨i + 1, none_next hi (fitG_n2 (by with_reducible assumption))⟩, [28], (by show (gapsL l).length - (i + 1) < (gapsL l).length - i; omega), by decide, ?_, ?_⟩⟩
      all_goals repeat' (first | exact rfl | exact trivial | refine And.intro ?_ ?_ | exact congrArg (Value.int .i64) (nat_succ (by omega)) | exact congrArg (Value.int .i64) (large_next hx))
    · refine ⟨⟨⟨i + 1, none_next hi (fitG_n1 (by with_reducible assumption))⟩, [28], (by show (gapsL l).length - (i + 1) < (gapsL l).length - i; omega), by decide, ?_, ?_⟩⟩
      all_goals repeat' (first | exact rfl | exact trivial | refine And.intro ?_ ?_ | exact congrArg (Value.int .i64) (nat_succ (by omega)) | exact congrArg (Value.int .i64) (large_next hx))
  · have hx : ¬ i < (gapsL l).length := by subst hκ; delta kid at h; have h2 : ¬ (i : Int) < ((gapsL l).length : Int) := of_decide_eq_false h; omega
    cbv
    (clear hH; subst hκ; delta kid at *; (try dsimp only at *))
    exact IsX.bool_ (hf.trans (any_none hx hi)).symm
def e_fits {κ : Kp} (hκ : κ = kid) : ESpec Tryz.prog := fnES [.list, .flat, .flat] b_fits F_fits hκ fun avs p r hF hp => by
  unfold F_fits at hF
  split at hF
  case h_2 => cases hF
  rename_i l xl a n
  simp only [kid, Option.some.injEq, Prod.mk.injEq] at hF
  obtain ⟨rfl, rfl⟩ := hF
  refine ⟨trivial, fun vs w hR => ?_⟩
  obtain ⟨il, Al, cl, vs0, rfl, rfl, hl, hR⟩ := hR
  obtain ⟨vs1, rfl, hR⟩ := hR
  obtain ⟨vs2, rfl, hR⟩ := hR
  have hR' : vs2 = [] := hR
  subst hR'
  exact k_fits l a n Al cl hp w hl
theorem b_rfree : Bodied Tryz.prog 62 := bodied Tryz.func62 rfl (by decide)
def F_rfree : FunX := fun κ avs => match avs with
  | [.spc s, .val (.c (.v (.int .i64 p))), .val (.c (.v (.int .i64 n)))] => some (κ _ (p ≤ 9223372036854775000), (.val (.c (.v (.bool (κ _ (freeS s p n)))))))
  | _ => none
set_option maxRecDepth 100000 in
set_option maxHeartbeats 4000000 in
theorem k_rfree (s : List Pg) (p : Int) (n : Int) (hside : p ≤ 9223372036854775000) (ns : s.length = 512) (w : World) :
    Calls Tryz.prog 62 #[(SV.agg (encS s)).den, (SV.c (.v (.int .i64 p))).den, (SV.c (.v (.int .i64 n))).den] w fun e w' => ∃ v H', e = .returned v.den ∧ IsX (.val (.c (.v (.bool (freeS s p n))))) v H' ∧ HSat w (fun _ => False) H' w' := by
  obtain ⟨κ, hκ⟩ : ∃ κ : Kp, κ = kid := ⟨_, rfl⟩
  have hH : HSat w (fun _ => False) (heapOf [(nilId, .rd none 1 0 [])]) w := by
    subst hκ
    refine HSat.reads fun p hp => ?_
    simp only [List.mem_cons, List.not_mem_nil, or_false] at hp
    rcases hp with rfl
    · exact ⟨_, _, _, _, rfl, nil_holds w⟩
  refine (callsP (n := 36) FTok [] mixed [] Tryz.func62 rfl (by kernel_rfl) #[(SV.agg (encS s)).den, (SV.c (.v (.int .i64 p))).den, (SV.c (.v (.int .i64 n))).den] [(0, .agg (κ _ (encS s))), (1, .c (.v (.int .i64 p))), (2, .c (.v (.int .i64 n)))] _ w rfl [.tmp 6] rfl (by simp) (by subst hκ; simp [SV.den, C.den, kid]) hH (fun v H' => IsX (.val (.c (.v (.bool (κ _ (freeS s p n)))))) v H') hκ ?_).mono ?_
  rotate_left
  · subst hκ; intro e w' h; exact h
  intro P' hP'
  cbv
  repeat' (first | refine And.intro ?_ ?_ | (intro _; cbv) | (refine tst_mk (fun h => ?_) (fun h => ?_) <;> cbv) | (refine LookX.nil ?_; cbv) | (refine LookX.auto hκ ?_; cbv))
  all_goals (try (show _ = true; subst hκ; delta kid; (have ho := encS_ok (s); generalize encS (s) = xs at ho ⊢; cases xs <;> exact ho)))
  all_goals (try (show Side _; refine ⟨?_⟩; subst hκ; delta kid at *; first | exact rfl | exact trivial | exact ⟨rfl, rfl, .inl rfl⟩ | ((try dsimp only at *); (try simp only [setTo_len, noS_len, List.length_append, List.length_cons, List.length_nil, List.length_map, and_self, true_or, or_true, eq_self, true_and, and_true, Nat.zero_add, Nat.add_zero]); (first | done | omega); done)))
  all_goals (try (show IsX _ _ _; (clear hH; subst hκ; delta kid at *; (try dsimp only at *)); first | exact IsX.bool_ (free_a (by with_reducible assumption)).symm | exact IsX.bool_ (free_b (by with_reducible assumption)).symm | exact IsX.bool_ (free_c (by with_reducible assumption)).symm | exact IsX.bool_ (free_d' hside (by with_reducible assumption) (by with_reducible assumption) (by with_reducible assumption) (by with_reducible assumption)).symm))
  rename_i b3 h1 h2 h3
  obtain ⟨w0, w1, w2, w3⟩ : IntKind.i64.wrap (p + n) = ((p.toNat + n.toNat : Nat) : Int) ∧ p = (p.toNat : Int) ∧ p.toNat + n.toNat ≤ 512 ∧ freeS s p n = freeK s p.toNat n.toNat := by subst hκ; exact free_e hside h1 h2 h3 h
  clear h1 h2 h3 h
  refine loopP hP' FTok [] mixed [1, 2, 3] (σ := {k : Nat // k ≤ n.toNat ∧ FreeTo s p.toNat k}) (fun q => [(7, .c (.v (.int .i64 (κ _ ((p.toNat + q.1 : Nat) : Int)))))]) (fun q => [(3, .blk b3 90 (κ _ (encS s)))]) (fun q => n.toNat - q.1) ⟨0, Nat.zero_le _, fun j h1 h2 => absurd h1 (by omega)⟩ [3] ?_ (by decide) ?_ hκ ?_
  · cbv
    all_goals (subst hκ; delta kid; repeat' (first | exact rfl | exact trivial | refine And.intro ?_ ?_ | exact congrArg (Value.int .i64) w1))
  · cbv
    all_goals (subst hκ; delta kid; repeat' (first | exact rfl | exact trivial | refine And.intro ?_ ?_))
  rintro ⟨k, hk, hf⟩
  cbv
  refine tst_mk (fun h => ?_) (fun h => ?_)
  · have hx : k < n.toNat := by subst hκ; delta kid at h; rw [w0] at h; have h2 : ((p.toNat + k : Nat) : Int) < ((p.toNat + n.toNat : Nat) : Int) := of_decide_eq_true h; omega
    have hm : p.toNat + k < 512 := by omega
    cbv
    repeat' (first | refine And.intro ?_ ?_ | (intro _; cbv) | (refine tst_mk (fun h => ?_) (fun h => ?_) <;> cbv) | (refine LookX.nil ?_; cbv) | (refine LookX.auto hκ ?_; cbv) | (refine LookR.mk' (x := .v (.bool (κ _ (nthP s (p.toNat + k)).is))) (by subst hκ; delta kid at *; exact page_is' ns hm) ?_; cbv))
    all_goals (try (show Side _; refine ⟨?_⟩; subst hκ; delta kid at *; first | exact rfl | exact trivial | exact ⟨rfl, rfl, .inl rfl⟩ | ((try dsimp only at *); (try simp only [setTo_len, noS_len, List.length_append, List.length_cons, List.length_nil, List.length_map, and_self, true_or, or_true, eq_self, true_and, and_true, Nat.zero_add, Nat.add_zero]); (first | done | omega); done)))
    all_goals (clear hH; subst hκ; delta kid at *; (try dsimp only at *))
    all_goals (try (exact ⟨page_ix hm⟩))
    · exact IsX.bool_ (w3.trans (free_here hx (by with_reducible assumption))).symm
    · refine ⟨⟨⟨k + 1, (by omega), freeTo_next hf (by with_reducible assumption)⟩, [3], (by show n.toNat - (k + 1) < n.toNat - k; omega), by decide, ?_, ?_⟩⟩
      all_goals repeat' (first | exact rfl | exact trivial | refine And.intro ?_ ?_ | exact congrArg (Value.int .i64) (nat_succ (by omega)))
  · have hx : ¬ k < n.toNat := by subst hκ; delta kid at h; rw [w0] at h; have h2 : ¬ ((p.toNat + k : Nat) : Int) < ((p.toNat + n.toNat : Nat) : Int) := of_decide_eq_false h; omega
    cbv
    (clear hH; subst hκ; delta kid at *; (try dsimp only at *))
    obtain rfl : k = n.toNat := by omega
    exact IsX.bool_ (w3.trans (free_all hf)).symm
def e_rfree {κ : Kp} (hκ : κ = kid) : ESpec Tryz.prog := fnES [.space, .flat, .flat] b_rfree F_rfree hκ fun avs p r hF hp => by
  unfold F_rfree at hF
  split at hF
  case h_2 => cases hF
  rename_i s p n
  simp only [kid, Option.some.injEq, Prod.mk.injEq] at hF
  obtain ⟨rfl, rfl⟩ := hF
  refine ⟨trivial, fun vs w hR => ?_⟩
  obtain ⟨vs0, rfl, ns, hR⟩ := hR
  obtain ⟨vs1, rfl, hR⟩ := hR
  obtain ⟨vs2, rfl, hR⟩ := hR
  have hR' : vs2 = [] := hR
  subst hR'
  exact k_rfree s p n hp ns w
theorem b_rfits : Bodied Tryz.prog 92 := bodied Tryz.func92 rfl (by decide)
def F_rfits : FunX := fun κ avs => match avs with
  | [.lst l xl, .val (.c (.v (.int .i64 a))), .val (.c (.v (.int .i64 n)))] => some (κ _ (Rt l ∧ l.length ≤ 300000 ∧ In64 a ∧ In64 n), (.val (.c (.v (.bool (κ _ (fitsL l a n)))))))
  | _ => none
set_option maxRecDepth 100000 in
set_option maxHeartbeats 4000000 in
theorem k_rfits (l : List Ar) (a : Int) (n : Int) (Al : Option Addr) (cl : Nat) (hside : Rt l ∧ l.length ≤ 300000 ∧ In64 a ∧ In64 n) (w : World) (hl : (Ent.rd Al 6 l.length (encL l)).holds w) :
    Calls Tryz.prog 92 #[.slice Al l.length cl, (SV.c (.v (.int .i64 a))).den, (SV.c (.v (.int .i64 n))).den] w fun e w' => ∃ v H', e = .returned v.den ∧ IsX (.val (.c (.v (.bool (fitsL l a n))))) v H' ∧ HSat w (fun _ => False) H' w' := by
  obtain ⟨κ, hκ⟩ : ∃ κ : Kp, κ = kid := ⟨_, rfl⟩
  have hH : HSat w (fun _ => False) (heapOf [(nilId, .rd none 1 0 []), (200000, .rd Al 6 (κ _ l.length) (κ _ (encL l)))]) w := by
    subst hκ
    refine HSat.reads fun p hp => ?_
    simp only [List.mem_cons, List.not_mem_nil, or_false] at hp
    rcases hp with rfl | rfl
    · exact ⟨_, _, _, _, rfl, nil_holds w⟩
    · exact ⟨_, _, _, _, rfl, hl⟩
  refine (callsP (n := 38) FTok [e_of hκ, e_rfree hκ] mixed [] Tryz.func92 rfl (by kernel_rfl) #[.slice Al l.length cl, (SV.c (.v (.int .i64 a))).den, (SV.c (.v (.int .i64 n))).den] [(0, .c (.sl 200000 Al (κ _ l.length) cl)), (1, .c (.v (.int .i64 a))), (2, .c (.v (.int .i64 n)))] _ w rfl [.tmp 6] rfl (by simp) (by subst hκ; simp [SV.den, C.den, kid]) hH (fun v H' => IsX (.val (.c (.v (.bool (κ _ (fitsL l a n)))))) v H') hκ ?_).mono ?_
  rotate_left
  · subst hκ; intro e w' h; exact h
  intro P' hP'
  cbv
  repeat' (first | refine And.intro ?_ ?_ | (intro _; cbv) | (refine tst_mk (fun h => ?_) (fun h => ?_) <;> cbv) | (refine LookX.nil ?_; cbv) | (refine LookX.auto hκ ?_; cbv))
  all_goals (try (show Side _; refine ⟨?_⟩; subst hκ; delta kid at *; first | exact rfl | exact trivial | exact ⟨rfl, rfl, .inl rfl⟩ | exact ⟨hside.1.1, by omega⟩ | exact ofL_len l | exact rf_q' (by with_reducible assumption) (by with_reducible assumption) | ((try dsimp only at *); (try simp only [setTo_len, noS_len, List.length_append, List.length_cons, List.length_nil, List.length_map, and_self, true_or, or_true, eq_self, true_and, and_true, Nat.zero_add, Nat.add_zero]); (first | done | omega); done)))
  all_goals (try (show IsX _ _ _; (clear hH; subst hκ; delta kid at *; (try dsimp only at *)); first | exact IsX.bool_ (rf_n hside.2.2.2 (.inl (by with_reducible assumption))).symm | exact IsX.bool_ (rf_n hside.2.2.2 (.inr (.inl (by with_reducible assumption)))).symm | exact IsX.bool_ (rf_n hside.2.2.2 (.inr (.inr (by with_reducible assumption)))).symm | exact IsX.bool_ (rf_a hside.1 hside.2.2.1 hside.2.2.2 (.inl (by with_reducible assumption))).symm | exact IsX.bool_ (rf_a hside.1 hside.2.2.1 hside.2.2.2 (.inr (.inl (by with_reducible assumption)))).symm | exact IsX.bool_ (rf_a hside.1 hside.2.2.1 hside.2.2.2 (.inr (.inr (by with_reducible assumption)))).symm | exact IsX.bool_ (rf_yes hside.1 hside.2.2.1 hside.2.2.2 (by with_reducible assumption) (by with_reducible assumption) (by with_reducible assumption) (by with_reducible assumption) (by with_reducible assumption) (by with_reducible assumption)).symm))
def e_rfits {κ : Kp} (hκ : κ = kid) : ESpec Tryz.prog := fnES [.list, .flat, .flat] b_rfits F_rfits hκ fun avs p r hF hp => by
  unfold F_rfits at hF
  split at hF
  case h_2 => cases hF
  rename_i l xl a n
  simp only [kid, Option.some.injEq, Prod.mk.injEq] at hF
  obtain ⟨rfl, rfl⟩ := hF
  refine ⟨trivial, fun vs w hR => ?_⟩
  obtain ⟨il, Al, cl, vs0, rfl, rfl, hl, hR⟩ := hR
  obtain ⟨vs1, rfl, hR⟩ := hR
  obtain ⟨vs2, rfl, hR⟩ := hR
  have hR' : vs2 = [] := hR
  subst hR'
  exact k_rfits l a n Al cl hp w hl
theorem b_rchoose : Bodied Tryz.prog 63 := bodied Tryz.func63 rfl (by decide)
def F_rchoose : FunX := fun κ avs => match avs with
  | [.lst l xl, .val (.c (.v (.int .i64 lo))), .val (.c (.v (.int .i64 hi))), .val (.c (.v (.int .i64 n))), .val (.c (.v (.bool gr)))] => some (κ _ (Rt l ∧ l.length ≤ 300000 ∧ In64 n), (.val (.c (.v (.int .i64 (κ _ (chooseL l lo hi n gr)))))))
  | _ => none
set_option maxRecDepth 100000 in
set_option maxHeartbeats 4000000 in
theorem k_rchoose (l : List Ar) (lo : Int) (hi : Int) (n : Int) (gr : Bool) (Al : Option Addr) (cl : Nat) (hside : Rt l ∧ l.length ≤ 300000 ∧ In64 n) (w : World) (hl : (Ent.rd Al 6 l.length (encL l)).holds w) :
    Calls Tryz.prog 63 #[.slice Al l.length cl, (SV.c (.v (.int .i64 lo))).den, (SV.c (.v (.int .i64 hi))).den, (SV.c (.v (.int .i64 n))).den, (SV.c (.v (.bool gr))).den] w fun e w' => ∃ v H', e = .returned v.den ∧ IsX (.val (.c (.v (.int .i64 (chooseL l lo hi n gr))))) v H' ∧ HSat w (fun _ => False) H' w' := by
  obtain ⟨κ, hκ⟩ : ∃ κ : Kp, κ = kid := ⟨_, rfl⟩
  have hH : HSat w (fun _ => False) (heapOf [(nilId, .rd none 1 0 []), (200000, .rd Al 6 (κ _ l.length) (κ _ (encL l)))]) w := by
    subst hκ
    refine HSat.reads fun p hp => ?_
    simp only [List.mem_cons, List.not_mem_nil, or_false] at hp
    rcases hp with rfl | rfl
    · exact ⟨_, _, _, _, rfl, nil_holds w⟩
    · exact ⟨_, _, _, _, rfl, hl⟩
  refine (callsP (n := 61) FTok [e_of hκ, e_rfree hκ] mixed [] Tryz.func63 rfl (by kernel_rfl) #[.slice Al l.length cl, (SV.c (.v (.int .i64 lo))).den, (SV.c (.v (.int .i64 hi))).den, (SV.c (.v (.int .i64 n))).den, (SV.c (.v (.bool gr))).den] [(0, .c (.sl 200000 Al (κ _ l.length) cl)), (1, .c (.v (.int .i64 lo))), (2, .c (.v (.int .i64 hi))), (3, .c (.v (.int .i64 n))), (4, .c (.v (.bool gr)))] _ w rfl [.tmp 10] rfl (by simp) (by subst hκ; simp [SV.den, C.den, kid]) hH (fun v H' => IsX (.val (.c (.v (.int .i64 (κ _ (chooseL l lo hi n gr)))))) v H') hκ ?_).mono ?_
  rotate_left
  · subst hκ; intro e w' h; exact h
  intro P' hP'
  cbv
  repeat' (first | refine And.intro ?_ ?_ | (intro _; cbv) | (refine tst_mk (fun h => ?_) (fun h => ?_) <;> cbv) | (refine LookX.nil ?_; cbv) | (refine LookX.auto hκ ?_; cbv))
  all_goals (try (show Side _; refine ⟨?_⟩; subst hκ; delta kid at *; first | exact rfl | exact trivial | exact ⟨rfl, rfl, .inl rfl⟩ | exact ⟨hside.1.1, by omega⟩ | exact ofL_len l | ((try dsimp only at *); (try simp only [setTo_len, noS_len, List.length_append, List.length_cons, List.length_nil, List.length_map, and_self, true_or, or_true, eq_self, true_and, and_true, Nat.zero_add, Nat.add_zero]); (first | done | omega); done)))
  all_goals (try (show _ = true; subst hκ; delta kid; (have ho := encS_ok (ofL l); generalize encS (ofL l) = xs at ho ⊢; cases xs <;> exact ho)))
  all_goals (try (show 2560 = _; subst hκ; delta kid; (have ho := encS_len2 (s := ofL l) (ofL_len l); generalize encS (ofL l) = xs at ho ⊢; cases xs <;> exact ho.symm)))
  all_goals (try (show Side _; subst hκ; delta kid; refine ⟨?_⟩; rw [encS_noS, encS_len, encS_len, ofL_len l, noS_len]; omega))
  all_goals (try (show IsX _ _ _; (clear hH; subst hκ; delta kid at *; (try dsimp only at *)); first | exact IsX.int_ (ch_bad hside.2.2 (.inl (by with_reducible assumption))).symm | exact IsX.int_ (ch_bad hside.2.2 (.inr (.inl (by with_reducible assumption)))).symm | exact IsX.int_ (ch_bad hside.2.2 (.inr (.inr (by with_reducible assumption)))).symm))
  rename_i b11 h1 h2
  have g1 : decide (n < 1) = false := by subst hκ; exact h1
  have g2 : decide (2031616 < n) = false := by subst hκ; exact h2
  have g3 : (Int.tmod n 4096 != 0) = false := by subst hκ; exact h
  clear h1 h2 h
  refine loopP hP' FTok [e_rfree hκ] mixed [1, 2, 3, 4, 11] (σ := {k : Nat // k ≤ 496}) (fun q => [(12, .c (.v (.int .i64 (κ _ (chF l lo hi n gr q.1))))), (13, .c (.v (.int .i64 (κ _ ((16 + q.1 : Nat) : Int)))))]) (fun q => [(11, .blk b11 90 (κ _ (encS (ofL l))))]) (fun q => 496 - q.1) ⟨0, Nat.zero_le _⟩ [11] ?_ (by decide) ?_ hκ ?_
  · cbv
    all_goals (subst hκ; delta kid; repeat' (first | exact rfl | exact trivial | refine And.intro ?_ ?_))
  · cbv
    all_goals (subst hκ; delta kid; repeat' (first | exact rfl | exact trivial | refine And.intro ?_ ?_ | (rw [zero_put (ofL_len l)])))
  rintro ⟨k, hk⟩
  cbv
  refine tst_mk (fun h => ?_) (fun h => ?_)
  · have hx : k < 496 := by subst hκ; delta kid at h; have h2 : ((16 + k : Nat) : Int) < 512 := of_decide_eq_true h; omega
    cbv
    repeat' (first | refine And.intro ?_ ?_ | (intro _; cbv) | (refine tst_mk (fun h => ?_) (fun h => ?_) <;> cbv) | (refine LookX.nil ?_; cbv) | (refine LookX.auto hκ ?_; cbv) | (refine LookN.mk' (x := κ _ (encS (ofL l))) (by subst hκ; delta kid at *; exact whole_take (ofL_len l)) ?_; cbv))
    all_goals (try (show Side _; refine ⟨?_⟩; subst hκ; delta kid at *; first | exact rfl | exact trivial | exact ⟨rfl, rfl, .inl rfl⟩ | exact ⟨hside.1.1, by omega⟩ | exact ofL_len l | ((try dsimp only at *); (try simp only [setTo_len, noS_len, List.length_append, List.length_cons, List.length_nil, List.length_map, and_self, true_or, or_true, eq_self, true_and, and_true, Nat.zero_add, Nat.add_zero]); (first | done | omega); done)))
    all_goals (clear hH; subst hκ; delta kid at *; (try dsimp only at *))
    all_goals (try (refine ⟨?_⟩; show ((16 + k : Nat) : Int) ≤ 9223372036854775000; omega; done))
    all_goals (refine ⟨⟨⟨k + 1, (by omega)⟩, [11], (by show 496 - (k + 1) < 496 - k; omega), by decide, ?_, ?_⟩⟩)
    all_goals repeat' (first | exact rfl | exact trivial | refine And.intro ?_ ?_ | exact congrArg (Value.int .i64) (nat_succ (by omega)) | exact congrArg (Value.int .i64) (ch_yes hx g1 g2 (by with_reducible assumption) (by with_reducible assumption) (by with_reducible assumption) (.inl (by with_reducible assumption))) | exact congrArg (Value.int .i64) (ch_yes hx g1 g2 (by with_reducible assumption) (by with_reducible assumption) (by with_reducible assumption) (.inr (by with_reducible assumption))) | exact congrArg (Value.int .i64) (ch_n1 hx (by with_reducible assumption)) | exact congrArg (Value.int .i64) (ch_n2 hx g1 g2 (by with_reducible assumption)) | exact congrArg (Value.int .i64) (ch_n3 hx g1 g2 (by with_reducible assumption)) | exact congrArg (Value.int .i64) (ch_n4 (by with_reducible assumption) (by with_reducible assumption)))
  · have hx : k = 496 := by subst hκ; delta kid at h; have h2 : ¬ ((16 + k : Nat) : Int) < 512 := of_decide_eq_false h; omega
    subst hx
    cbv
    (clear hH; subst hκ; delta kid at *; (try dsimp only at *))
    exact IsX.int_ (ch_end hside.1 hside.2.2 g1 g2 g3)
def e_rchoose {κ : Kp} (hκ : κ = kid) : ESpec Tryz.prog := fnES [.list, .flat, .flat, .flat, .flat] b_rchoose F_rchoose hκ fun avs p r hF hp => by
  unfold F_rchoose at hF
  split at hF
  case h_2 => cases hF
  rename_i l xl lo hi n gr
  simp only [kid, Option.some.injEq, Prod.mk.injEq] at hF
  obtain ⟨rfl, rfl⟩ := hF
  refine ⟨trivial, fun vs w hR => ?_⟩
  obtain ⟨il, Al, cl, vs0, rfl, rfl, hl, hR⟩ := hR
  obtain ⟨vs1, rfl, hR⟩ := hR
  obtain ⟨vs2, rfl, hR⟩ := hR
  obtain ⟨vs3, rfl, hR⟩ := hR
  obtain ⟨vs4, rfl, hR⟩ := hR
  have hR' : vs4 = [] := hR
  subst hR'
  exact k_rchoose l lo hi n gr Al cl hp w hl
end Go.Proofs.YtbcicjmepojlnaaGreat.Eng
