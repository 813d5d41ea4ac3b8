/- Texts of this work, laid together: symbolic execution over the model, contracts of the program's functions, what they come to; conditions: as each says. -/
import Derived.Test.YtbcicjmepojlnaaPkBaseAK
/- Contracts of functions (printed by genx.py of this work): what each hands back; condition: as its 'hside' says. -/
namespace Go.Proofs.Ytbcicjmepojlnaa.Eng
open Go Go.RowKit
set_option linter.unusedVariables false
set_option linter.unusedSimpArgs false

theorem b_listPuts : Bodied Try.prog 11 := bodied Try.func11 rfl (by decide)
def F_listPuts : FunX := fun κ avs => match avs with
  | [.lstc l xl, .val (.agg [.v (.int .i64 a1), .v (.int .i64 a2), .v (.int .i64 a3), .v (.bool a4), .v (.int .i64 a5), .v (.int .i64 a6)])] => some (κ _ (True), (.val (.c (.v (.bool true)))))
  | _ => none
set_option maxRecDepth 100000 in
set_option maxHeartbeats 4000000 in
theorem k_listPuts (l : List Ar) (a1 : Int) (a2 : Int) (a3 : Int) (a4 : Bool) (a5 : Int) (a6 : Int) (Al : Option Addr) (cl : Nat) (kl : l.length ≤ cl) (hside : True) (w : World) (hl : (Ent.rd Al 6 l.length (encL l)).holds w) :
    Calls Try.prog 11 #[.slice Al l.length cl, (SV.agg [.v (.int .i64 a1), .v (.int .i64 a2), .v (.int .i64 a3), .v (.bool a4), .v (.int .i64 a5), .v (.int .i64 a6)]).den] w fun e w' => ∃ v H', e = .returned v.den ∧ IsX (.val (.c (.v (.bool true)))) v H' ∧ HSat w (fun _ => False) H' w' := by
  obtain ⟨κ, hκ⟩ : ∃ κ : Kp, κ = kid := ⟨_, rfl⟩
  have hH : HSat w (fun _ => False) (heapOf [(nilId, .rd none 1 0 []), (200000, .rd Al 6 (κ _ l.length) (κ _ (encL l)))]) w := by
    subst hκ
    refine HSat.reads fun p hp => ?_
    simp only [List.mem_cons, List.not_mem_nil, or_false] at hp
    rcases hp with rfl | rfl
    · exact ⟨_, _, _, _, rfl, nil_holds w⟩
    · exact ⟨_, _, _, _, rfl, hl⟩
  refine (callsP (n := 35) FTok [e_awake7 hκ, e_made hκ, e_put hκ, e_refF hκ, e_rsame hκ] mixed [(7, [[], [0], [0, 1], [0], [0, 1, 2, 3], [0, 1, 2, 3], [0], [0], [], []])] Try.func11 rfl (by kernel_rfl) #[.slice Al l.length cl, (SV.agg [.v (.int .i64 a1), .v (.int .i64 a2), .v (.int .i64 a3), .v (.bool a4), .v (.int .i64 a5), .v (.int .i64 a6)]).den] [(0, .c (.sl 200000 Al (κ _ l.length) cl)), (1, .agg [.v (.int .i64 a1), .v (.int .i64 a2), .v (.int .i64 a3), .v (.bool a4), .v (.int .i64 a5), .v (.int .i64 a6)])] _ w rfl [.tmp 4] rfl (by simp) (by subst hκ; simp [SV.den, C.den, kid]) hH (fun v H' => IsX (.val (.c (.v (.bool true)))) v H') hκ ?_).mono ?_
  rotate_left
  · subst hκ; intro e w' h; exact h
  intro P' hP'
  cbv
  repeat' (first | refine And.intro ?_ ?_ | (intro _; cbv) | (refine tst_mk (fun h => ?_) (fun h => ?_) <;> cbv) | (refine LookX.nil ?_; cbv) | (refine LookX.auto hκ ?_; cbv) | (refine LookX.mk' (x := κ _ (madeL l ++ [(⟨a1, a2, a3, a4, a5, a6⟩ : Ar)])) (by subst hκ; delta kid at *; exact puts_enc _ _ _ _ _ _ _) ?_; cbv))
  all_goals (try (show Side _; refine ⟨?_⟩; subst hκ; delta kid at *; first | exact rfl | exact trivial | exact ⟨rfl, rfl, .inl rfl⟩ | exact ⟨rfl, rfl, .inl rfl, kl⟩ | exact ⟨rfl, rfl, .inl rfl, encL_ok _⟩ | exact ⟨rfl, rfl, rfl, .inl rfl⟩ | exact ⟨rfl, rfl, .inl rfl, rfl⟩ | exact bd (put_bd _ _) (by omega) | exact bd (cut_bd _ _ _) (by omega) | exact bd (set_bd _ _ _ _) (by omega) | ((try dsimp only at *); have z1 := madeL_le l; (try simp only [maxLen]); have q0 : ¬ (20 : Int) < (l.length : Int) := of_decide_eq_false (by assumption); (try simp only [setTo_len, noS_len, List.length_append, List.length_cons, List.length_nil, List.length_map, and_self, true_or, or_true, eq_self, true_and, and_true, Nat.zero_add, Nat.add_zero]); (first | done | omega); done)))
  all_goals (clear hH; subst hκ; delta kid at *; (try dsimp only at *))
  all_goals (try (exact ⟨trivial⟩))
  all_goals (try (show IsX _ _ _; exact IsX.val_ rfl))
  all_goals (try simp only [Ar.eta, refF_eq, Bool.not_eq_true', Bool.not_eq_false'] at *)
  all_goals (try (exact ⟨page_ix (by decide)⟩))
  all_goals (try (exact ⟨by decide⟩))
  all_goals (show IsX _ _ _; refine IsX.bool_ ?_)
  · have q0 : ¬ (20 : Int) < (l.length : Int) := of_decide_eq_false (by assumption)
    exact puts_law (by omega) (by assumption)
  · rw [put_no2 (by assumption)]; rfl
def e_listPuts {κ : Kp} (hκ : κ = kid) : ESpec Try.prog := fnES [.listc, .flat] b_listPuts F_listPuts hκ fun avs p r hF hp => by
  unfold F_listPuts at hF
  split at hF
  case h_2 => cases hF
  rename_i l xl a1 a2 a3 a4 a5 a6
  simp only [kid, Option.some.injEq, Prod.mk.injEq] at hF
  obtain ⟨rfl, rfl⟩ := hF
  refine ⟨trivial, fun vs w hR => ?_⟩
  obtain ⟨il, Al, cl, vs0, rfl, rfl, kl, hl, hR⟩ := hR
  obtain ⟨vs1, rfl, hR⟩ := hR
  have hR' : vs1 = [] := hR
  subst hR'
  exact k_listPuts l a1 a2 a3 a4 a5 a6 Al cl kl hp w hl

theorem b_listApart : Bodied Try.prog 10 := bodied Try.func10 rfl (by decide)
def F_listApart : FunX := fun κ avs => match avs with
  | [.lstc l xl, .val (.agg [.v (.int .i64 a1), .v (.int .i64 a2), .v (.int .i64 a3), .v (.bool a4), .v (.int .i64 a5), .v (.int .i64 a6)]), .val (.agg [.v (.int .i64 b1), .v (.int .i64 b2), .v (.int .i64 b3), .v (.bool b4), .v (.int .i64 b5), .v (.int .i64 b6)])] => some (κ _ (True), (.val (.c (.v (.bool true)))))
  | _ => none
set_option maxRecDepth 100000 in
set_option maxHeartbeats 4000000 in
theorem k_listApart (l : List Ar) (a1 : Int) (a2 : Int) (a3 : Int) (a4 : Bool) (a5 : Int) (a6 : Int) (b1 : Int) (b2 : Int) (b3 : Int) (b4 : Bool) (b5 : Int) (b6 : Int) (Al : Option Addr) (cl : Nat) (kl : l.length ≤ cl) (hside : True) (w : World) (hl : (Ent.rd Al 6 l.length (encL l)).holds w) :
    Calls Try.prog 10 #[.slice Al l.length cl, (SV.agg [.v (.int .i64 a1), .v (.int .i64 a2), .v (.int .i64 a3), .v (.bool a4), .v (.int .i64 a5), .v (.int .i64 a6)]).den, (SV.agg [.v (.int .i64 b1), .v (.int .i64 b2), .v (.int .i64 b3), .v (.bool b4), .v (.int .i64 b5), .v (.int .i64 b6)]).den] w fun e w' => ∃ v H', e = .returned v.den ∧ IsX (.val (.c (.v (.bool true)))) v H' ∧ HSat w (fun _ => False) H' w' := by
  obtain ⟨κ, hκ⟩ : ∃ κ : Kp, κ = kid := ⟨_, rfl⟩
  have hH : HSat w (fun _ => False) (heapOf [(nilId, .rd none 1 0 []), (200000, .rd Al 6 (κ _ l.length) (κ _ (encL l)))]) w := by
    subst hκ
    refine HSat.reads fun p hp => ?_
    simp only [List.mem_cons, List.not_mem_nil, or_false] at hp
    rcases hp with rfl | rfl
    · exact ⟨_, _, _, _, rfl, nil_holds w⟩
    · exact ⟨_, _, _, _, rfl, hl⟩
  refine (callsP (n := 73) FTok [e_awake7 hκ, e_made hκ, e_put hκ, e_refF hκ, e_rsame hκ, e_pages hκ] mixed [(4, [[], [0], [], [0, 1, 2], [], [0, 1, 2, 3, 4], [0, 1, 2, 3, 4, 5], [], [0, 1, 2, 3, 4, 5, 6, 7], [], [], [], [], [], [12, 13], [], [], [12, 13, 14, 15, 16], [12, 13, 14, 15, 16], [12, 13, 14, 15, 16, 17, 18], [12, 13, 14, 15, 16, 17, 18], [12, 13, 14, 15, 16], [12, 13, 14, 15, 16, 17, 18, 19, 20, 21], [12, 13, 14, 15, 16, 17, 18, 19, 20, 21], [12, 13, 14, 15, 16], [12, 13, 14, 15, 16, 17, 18, 19, 20, 21, 22, 23, 24], [12, 13, 14, 15, 16, 17, 18, 19, 20, 21, 22, 23, 24], [12, 13, 14, 15, 16], [12, 13, 14, 15, 16], [], [], []])] Try.func10 rfl (by kernel_rfl) #[.slice Al l.length cl, (SV.agg [.v (.int .i64 a1), .v (.int .i64 a2), .v (.int .i64 a3), .v (.bool a4), .v (.int .i64 a5), .v (.int .i64 a6)]).den, (SV.agg [.v (.int .i64 b1), .v (.int .i64 b2), .v (.int .i64 b3), .v (.bool b4), .v (.int .i64 b5), .v (.int .i64 b6)]).den] [(0, .c (.sl 200000 Al (κ _ l.length) cl)), (1, .agg [.v (.int .i64 a1), .v (.int .i64 a2), .v (.int .i64 a3), .v (.bool a4), .v (.int .i64 a5), .v (.int .i64 a6)]), (2, .agg [.v (.int .i64 b1), .v (.int .i64 b2), .v (.int .i64 b3), .v (.bool b4), .v (.int .i64 b5), .v (.int .i64 b6)])] _ w rfl [.tmp 6] rfl (by simp) (by subst hκ; simp [SV.den, C.den, kid]) hH (fun v H' => IsX (.val (.c (.v (.bool true)))) v H') hκ ?_).mono ?_
  rotate_left
  · subst hκ; intro e w' h; exact h
  intro P' hP'
  cbv
  repeat' (first | refine And.intro ?_ ?_ | (intro _; cbv) | (refine tst_mk (fun h => ?_) (fun h => ?_) <;> cbv) | (refine LookX.nil ?_; cbv) | (refine LookX.auto hκ ?_; cbv))
  all_goals (try (show Side _; refine ⟨?_⟩; subst hκ; delta kid at *; first | exact rfl | exact trivial | exact ⟨rfl, rfl, .inl rfl⟩ | exact ⟨rfl, rfl, .inl rfl, kl⟩ | exact ⟨rfl, rfl, .inl rfl, encL_ok _⟩ | exact ⟨rfl, rfl, rfl, .inl rfl⟩ | exact ⟨rfl, rfl, .inl rfl, rfl⟩ | exact bd (put_bd _ _) (by omega) | exact bd (cut_bd _ _ _) (by omega) | exact bd (set_bd _ _ _ _) (by omega) | ((try dsimp only at *); have z1 := madeL_le l; (try simp only [maxLen]); have q0 : ¬ (20 : Int) < (l.length : Int) := of_decide_eq_false (by assumption); (try simp only [setTo_len, noS_len, List.length_append, List.length_cons, List.length_nil, List.length_map, and_self, true_or, or_true, eq_self, true_and, and_true, Nat.zero_add, Nat.add_zero]); (first | done | omega); done)))
  all_goals (clear hH; subst hκ; delta kid at *; (try dsimp only at *))
  all_goals (try (exact ⟨trivial⟩))
  all_goals (try (show IsX _ _ _; exact IsX.val_ rfl))
  all_goals (try simp only [Ar.eta, refF_eq, Bool.not_eq_true', Bool.not_eq_false'] at *)
  all_goals (try (exact ⟨page_ix (by decide)⟩))
  all_goals (try (exact ⟨by decide⟩))
  all_goals (show IsX _ _ _; refine IsX.bool_ ?_)
  all_goals (have hap : a2 ≤ b1 ∨ b2 ≤ a1 := by first | exact .inl (by have := of_decide_eq_false ‹decide (b1 < a2) = false›; omega) | exact .inr (by have := of_decide_eq_false ‹decide (a1 < b2) = false›; omega))
  all_goals (have ha : formed (⟨a1, a2, a3, a4, a5, a6⟩ : Ar) = true := by assumption)
  all_goals (have hb : formed (⟨b1, b2, b3, b4, b5, b6⟩ : Ar) = true := by assumption)
  all_goals (first | exact apart_num ha hb hap | (have hl := apart_law (made_rt l) ha hb hap; exact Eq.trans (Eq.symm (by with_reducible assumption)) hl))
def e_listApart {κ : Kp} (hκ : κ = kid) : ESpec Try.prog := fnES [.listc, .flat, .flat] b_listApart F_listApart hκ fun avs p r hF hp => by
  unfold F_listApart at hF
  split at hF
  case h_2 => cases hF
  rename_i l xl a1 a2 a3 a4 a5 a6 b1 b2 b3 b4 b5 b6
  simp only [kid, Option.some.injEq, Prod.mk.injEq] at hF
  obtain ⟨rfl, rfl⟩ := hF
  refine ⟨trivial, fun vs w hR => ?_⟩
  obtain ⟨il, Al, cl, vs0, rfl, rfl, kl, hl, hR⟩ := hR
  obtain ⟨vs1, rfl, hR⟩ := hR
  obtain ⟨vs2, rfl, hR⟩ := hR
  have hR' : vs2 = [] := hR
  subst hR'
  exact k_listApart l a1 a2 a3 a4 a5 a6 b1 b2 b3 b4 b5 b6 Al cl kl hp w hl

theorem b_listUndone : Bodied Try.prog 12 := bodied Try.func12 rfl (by decide)
def F_listUndone : FunX := fun κ avs => match avs with
  | [.lstc l xl, .val (.agg [.v (.int .i64 a1), .v (.int .i64 a2), .v (.int .i64 a3), .v (.bool a4), .v (.int .i64 a5), .v (.int .i64 a6)])] => some (κ _ (True), (.val (.c (.v (.bool true)))))
  | _ => none
set_option maxRecDepth 100000 in
set_option maxHeartbeats 4000000 in
theorem k_listUndone (l : List Ar) (a1 : Int) (a2 : Int) (a3 : Int) (a4 : Bool) (a5 : Int) (a6 : Int) (Al : Option Addr) (cl : Nat) (kl : l.length ≤ cl) (hside : True) (w : World) (hl : (Ent.rd Al 6 l.length (encL l)).holds w) :
    Calls Try.prog 12 #[.slice Al l.length cl, (SV.agg [.v (.int .i64 a1), .v (.int .i64 a2), .v (.int .i64 a3), .v (.bool a4), .v (.int .i64 a5), .v (.int .i64 a6)]).den] w fun e w' => ∃ v H', e = .returned v.den ∧ IsX (.val (.c (.v (.bool true)))) v H' ∧ HSat w (fun _ => False) H' w' := by
  obtain ⟨κ, hκ⟩ : ∃ κ : Kp, κ = kid := ⟨_, rfl⟩
  have hH : HSat w (fun _ => False) (heapOf [(nilId, .rd none 1 0 []), (200000, .rd Al 6 (κ _ l.length) (κ _ (encL l)))]) w := by
    subst hκ
    refine HSat.reads fun p hp => ?_
    simp only [List.mem_cons, List.not_mem_nil, or_false] at hp
    rcases hp with rfl | rfl
    · exact ⟨_, _, _, _, rfl, nil_holds w⟩
    · exact ⟨_, _, _, _, rfl, hl⟩
  refine (callsP (n := 50) FTok [e_awake7 hκ, e_made hκ, e_put hκ, e_cut hκ, e_refF hκ, e_rsame hκ] mixed [(4, [[], [0], [], [0, 1, 2], [0, 1, 2], [0, 1, 2, 3, 4], [0, 1, 2, 3, 4], [], [0, 1, 2, 3, 4, 5, 6, 7], [0, 1, 2, 3, 4, 5, 6, 7, 8], [0, 1, 2, 3, 4, 5, 6, 7, 8], [0, 1, 2, 3, 4, 5, 6, 7, 8, 9, 10], [0, 1, 2, 3, 4, 5, 6, 7, 8, 9, 10], [], [], [], [], [16], [16], [16, 17, 18], [16, 17, 18], [], [16, 17, 18, 19, 20, 21], [], [16, 17, 18, 19, 20, 21, 22, 23], [16, 17, 18, 19, 20, 21, 22, 23, 24], [], [], [], []])] Try.func12 rfl (by kernel_rfl) #[.slice Al l.length cl, (SV.agg [.v (.int .i64 a1), .v (.int .i64 a2), .v (.int .i64 a3), .v (.bool a4), .v (.int .i64 a5), .v (.int .i64 a6)]).den] [(0, .c (.sl 200000 Al (κ _ l.length) cl)), (1, .agg [.v (.int .i64 a1), .v (.int .i64 a2), .v (.int .i64 a3), .v (.bool a4), .v (.int .i64 a5), .v (.int .i64 a6)])] _ w rfl [.tmp 4] rfl (by simp) (by subst hκ; simp [SV.den, C.den, kid]) hH (fun v H' => IsX (.val (.c (.v (.bool true)))) v H') hκ ?_).mono ?_
  rotate_left
  · subst hκ; intro e w' h; exact h
  intro P' hP'
  cbv
  repeat' (first | refine And.intro ?_ ?_ | (intro _; cbv) | (refine tst_mk (fun h => ?_) (fun h => ?_) <;> cbv) | (refine LookX.nil ?_; cbv) | (refine LookX.auto hκ ?_; cbv))
  all_goals (try (show Side _; refine ⟨?_⟩; subst hκ; delta kid at *; first | exact rfl | exact trivial | exact ⟨rfl, rfl, .inl rfl⟩ | exact ⟨rfl, rfl, .inl rfl, kl⟩ | exact ⟨rfl, rfl, .inl rfl, encL_ok _⟩ | exact ⟨rfl, rfl, rfl, .inl rfl⟩ | exact ⟨rfl, rfl, .inl rfl, rfl⟩ | exact bd (put_bd _ _) (by omega) | exact bd (cut_bd _ _ _) (by omega) | exact bd (set_bd _ _ _ _) (by omega) | ((try dsimp only at *); have z1 := madeL_le l; (try simp only [maxLen]); have q0 : ¬ (20 : Int) < (l.length : Int) := of_decide_eq_false (by assumption); (try simp only [setTo_len, noS_len, List.length_append, List.length_cons, List.length_nil, List.length_map, and_self, true_or, or_true, eq_self, true_and, and_true, Nat.zero_add, Nat.add_zero]); (first | done | omega); done)))
  all_goals (clear hH; subst hκ; delta kid at *; (try dsimp only at *))
  all_goals (try (exact ⟨trivial⟩))
  all_goals (try (show IsX _ _ _; exact IsX.val_ rfl))
  all_goals (try simp only [Ar.eta, refF_eq, Bool.not_eq_true', Bool.not_eq_false'] at *)
  all_goals (try (exact ⟨page_ix (by decide)⟩))
  all_goals (try (exact ⟨by decide⟩))
  all_goals (show IsX _ _ _; refine IsX.bool_ ?_)
  all_goals (have ha : formed (⟨a1, a2, a3, a4, a5, a6⟩ : Ar) = true := by assumption)
  all_goals (first | exact undone2 (made_rt l) ha | (have hl := undone1 (made_rt l) ha; exact Eq.trans (Eq.symm (by with_reducible assumption)) hl))
def e_listUndone {κ : Kp} (hκ : κ = kid) : ESpec Try.prog := fnES [.listc, .flat] b_listUndone F_listUndone hκ fun avs p r hF hp => by
  unfold F_listUndone at hF
  split at hF
  case h_2 => cases hF
  rename_i l xl a1 a2 a3 a4 a5 a6
  simp only [kid, Option.some.injEq, Prod.mk.injEq] at hF
  obtain ⟨rfl, rfl⟩ := hF
  refine ⟨trivial, fun vs w hR => ?_⟩
  obtain ⟨il, Al, cl, vs0, rfl, rfl, kl, hl, hR⟩ := hR
  obtain ⟨vs1, rfl, hR⟩ := hR
  have hR' : vs1 = [] := hR
  subst hR'
  exact k_listUndone l a1 a2 a3 a4 a5 a6 Al cl kl hp w hl

theorem b_listTwice : Bodied Try.prog 13 := bodied Try.func13 rfl (by decide)
def F_listTwice : FunX := fun κ avs => match avs with
  | [.lstc l xl, .val (.agg [.v (.int .i64 a1), .v (.int .i64 a2), .v (.int .i64 a3), .v (.bool a4), .v (.int .i64 a5), .v (.int .i64 a6)]), .val (.agg [.v (.int .i64 at1), .v (.int .i64 at2)])] => some (κ _ (In64 (⟨at1, at2⟩ : Int × Int).1 ∧ In64 (⟨at1, at2⟩ : Int × Int).2), (.val (.c (.v (.bool true)))))
  | _ => none
set_option maxRecDepth 100000 in
set_option maxHeartbeats 4000000 in
theorem k_listTwice (l : List Ar) (a1 : Int) (a2 : Int) (a3 : Int) (a4 : Bool) (a5 : Int) (a6 : Int) (at1 : Int) (at2 : Int) (Al : Option Addr) (cl : Nat) (kl : l.length ≤ cl) (hside : In64 (⟨at1, at2⟩ : Int × Int).1 ∧ In64 (⟨at1, at2⟩ : Int × Int).2) (w : World) (hl : (Ent.rd Al 6 l.length (encL l)).holds w) :
    Calls Try.prog 13 #[.slice Al l.length cl, (SV.agg [.v (.int .i64 a1), .v (.int .i64 a2), .v (.int .i64 a3), .v (.bool a4), .v (.int .i64 a5), .v (.int .i64 a6)]).den, (SV.agg [.v (.int .i64 at1), .v (.int .i64 at2)]).den] w fun e w' => ∃ v H', e = .returned v.den ∧ IsX (.val (.c (.v (.bool true)))) v H' ∧ HSat w (fun _ => False) H' w' := by
  obtain ⟨κ, hκ⟩ : ∃ κ : Kp, κ = kid := ⟨_, rfl⟩
  have hH : HSat w (fun _ => False) (heapOf [(nilId, .rd none 1 0 []), (200000, .rd Al 6 (κ _ l.length) (κ _ (encL l)))]) w := by
    subst hκ
    refine HSat.reads fun p hp => ?_
    simp only [List.mem_cons, List.not_mem_nil, or_false] at hp
    rcases hp with rfl | rfl
    · exact ⟨_, _, _, _, rfl, nil_holds w⟩
    · exact ⟨_, _, _, _, rfl, hl⟩
  refine (callsP (n := 66) FTok [e_awake7 hκ, e_made hκ, e_put hκ, e_cut hκ, e_set hκ, e_refF hκ, e_rsame hκ] mixed [(4, [[], [0], [], [0, 1, 2], [0, 1, 2, 3], [0, 1, 2, 3], [0, 1, 2, 3, 4, 5], [0, 1, 2, 3, 4, 5], [], [0, 1, 2, 3, 4, 5, 6, 7, 8], [0, 1, 2, 3, 4, 5, 6, 7, 8, 9], [0, 1, 2, 3, 4, 5, 6, 7, 8, 9], [0, 1, 2, 3, 4, 5, 6, 7, 8, 9, 10, 11], [0, 1, 2, 3, 4, 5, 6, 7, 8, 9, 10, 11], [], [], [], []])] Try.func13 rfl (by kernel_rfl) #[.slice Al l.length cl, (SV.agg [.v (.int .i64 a1), .v (.int .i64 a2), .v (.int .i64 a3), .v (.bool a4), .v (.int .i64 a5), .v (.int .i64 a6)]).den, (SV.agg [.v (.int .i64 at1), .v (.int .i64 at2)]).den] [(0, .c (.sl 200000 Al (κ _ l.length) cl)), (1, .agg [.v (.int .i64 a1), .v (.int .i64 a2), .v (.int .i64 a3), .v (.bool a4), .v (.int .i64 a5), .v (.int .i64 a6)]), (2, .agg [.v (.int .i64 at1), .v (.int .i64 at2)])] _ w rfl [.tmp 6] rfl (by simp) (by subst hκ; simp [SV.den, C.den, kid]) hH (fun v H' => IsX (.val (.c (.v (.bool true)))) v H') hκ ?_).mono ?_
  rotate_left
  · subst hκ; intro e w' h; exact h
  intro P' hP'
  cbv
  repeat' (first | refine And.intro ?_ ?_ | (intro _; cbv) | (refine tst_mk (fun h => ?_) (fun h => ?_) <;> cbv) | (refine LookX.nil ?_; cbv) | (refine LookX.auto hκ ?_; cbv))
  all_goals (try (show Side _; refine ⟨?_⟩; subst hκ; delta kid at *; first | exact rfl | exact trivial | exact ⟨rfl, rfl, .inl rfl⟩ | exact ⟨rfl, rfl, .inl rfl, kl⟩ | exact ⟨rfl, rfl, .inl rfl, encL_ok _⟩ | exact ⟨rfl, rfl, rfl, .inl rfl⟩ | exact ⟨rfl, rfl, .inl rfl, rfl⟩ | exact bd (put_bd _ _) (by omega) | exact bd (cut_bd _ _ _) (by omega) | exact bd (set_bd _ _ _ _) (by omega) | ((try dsimp only at *); have z1 := madeL_le l; (try simp only [maxLen]); have q0 : ¬ (20 : Int) < (l.length : Int) := of_decide_eq_false (by assumption); (try simp only [setTo_len, noS_len, List.length_append, List.length_cons, List.length_nil, List.length_map, and_self, true_or, or_true, eq_self, true_and, and_true, Nat.zero_add, Nat.add_zero]); (first | done | omega); done)))
  all_goals (clear hH; subst hκ; delta kid at *; (try dsimp only at *))
  all_goals (try (exact ⟨trivial⟩))
  all_goals (try (show IsX _ _ _; exact IsX.val_ rfl))
  all_goals (try simp only [Ar.eta, refF_eq, Bool.not_eq_true', Bool.not_eq_false'] at *)
  all_goals (try (exact ⟨page_ix (by decide)⟩))
  all_goals (try (exact ⟨by decide⟩))
  all_goals (show IsX _ _ _; refine IsX.bool_ ?_)
  all_goals (have ha : formed (⟨a1, a2, a3, a4, a5, a6⟩ : Ar) = true := by assumption)
  all_goals (first | exact twice3 (made_rt l) hside.1 hside.2 | (have hl := twice1 (made_rt l) ha; have hl2 := twice2 (made_rt l) hside.1 hside.2; first | exact Eq.trans (Eq.symm (by with_reducible assumption)) hl | exact Eq.trans (Eq.symm (by with_reducible assumption)) hl2))
def e_listTwice {κ : Kp} (hκ : κ = kid) : ESpec Try.prog := fnES [.listc, .flat, .flat] b_listTwice F_listTwice hκ fun avs p r hF hp => by
  unfold F_listTwice at hF
  split at hF
  case h_2 => cases hF
  rename_i l xl a1 a2 a3 a4 a5 a6 at1 at2
  simp only [kid, Option.some.injEq, Prod.mk.injEq] at hF
  obtain ⟨rfl, rfl⟩ := hF
  refine ⟨trivial, fun vs w hR => ?_⟩
  obtain ⟨il, Al, cl, vs0, rfl, rfl, kl, hl, hR⟩ := hR
  obtain ⟨vs1, rfl, hR⟩ := hR
  obtain ⟨vs2, rfl, hR⟩ := hR
  have hR' : vs2 = [] := hR
  subst hR'
  exact k_listTwice l a1 a2 a3 a4 a5 a6 at1 at2 Al cl kl hp w hl

end Go.Proofs.Ytbcicjmepojlnaa.Eng
