/- Texts of this work, laid together: symbolic execution over the model, contracts of the program's functions, what they come to; conditions: as each says. -/
import Derived.Test.YtbcicjmepojlnaaPkKBL
import Derived.Test.YtbcicjmepojlnaaPkKBM
import Derived.Test.YtbcicjmepojlnaaPkKBN
/- Contracts of functions (printed by genx.py of this work): what each hands back; condition: as its 'hside' says. -/
namespace Go.Proofs.Ytbcicjmepojlnaa.Eng
open Go Go.RowKit
set_option linter.unusedVariables false
set_option linter.unusedSimpArgs false
theorem b_awake12 : Bodied Try.prog 85 := bodied Try.func85 rfl (by decide)
def F_awake12 : FunX := fun κ avs => match avs with
  | [] => some (κ _ (True), (.val (.c (.v (.bool true)))))
  | _ => none
set_option maxRecDepth 100000 in
set_option maxHeartbeats 4000000 in
theorem k_awake12 (hside : True) (w : World) :
    Calls Try.prog 85 #[] w fun e w' => ∃ v H', e = .returned v.den ∧ IsX (.val (.c (.v (.bool true)))) v H' ∧ HSat w (fun _ => False) H' w' := by
  obtain ⟨κ, hκ⟩ : ∃ κ : Kp, κ = kid := ⟨_, rfl⟩
  have hH : HSat w (fun _ => False) (heapOf [(nilId, .rd none 1 0 [])]) w := by
    subst hκ
    refine HSat.reads fun p hp => ?_
    simp only [List.mem_cons, List.not_mem_nil, or_false] at hp
    rcases hp with rfl
    · exact ⟨_, _, _, _, rfl, nil_holds w⟩
  refine (callsP (n := 30) FTok [e_remap hκ] mixed [] Try.func85 rfl (by kernel_rfl) #[] [] _ w rfl [.tmp 0] rfl (by simp) (by subst hκ; simp [SV.den, C.den, kid]) hH (fun v H' => IsX (.val (.c (.v (.bool true)))) v H') hκ ?_).mono ?_
  rotate_left
  · subst hκ; intro e w' h; exact h
  intro P' hP'
  cbv
  repeat' (first | refine And.intro ?_ ?_ | (intro _; cbv) | (refine tst_mk (fun h => ?_) (fun h => ?_) <;> cbv) | (refine LookX.nil ?_; cbv) | (refine LookX.auto hκ ?_; cbv) | (refine LookX.mk' (x := [(⟨65536, 69632, 1, false, 0, 0⟩ : Ar)]) (by subst hκ; rfl) ?_; cbv) | (refine LookR.mk' (x := .v (.int .i64 73728)) (by subst hκ; kernel_rfl) ?_; cbv))
  all_goals (subst hκ; delta kid at *)
  all_goals (try (show Side _; exact ⟨⟨rfl, rfl, .inl rfl⟩⟩))
  all_goals (try (show Side _; refine ⟨?_⟩; decide +kernel))
  all_goals (try (show IsX _ _ _; refine IsX.bool_ ?_; decide +kernel))
  all_goals (first | exact absurd h (by decide +kernel) | trace_state)
def e_awake12 {κ : Kp} (hκ : κ = kid) : ESpec Try.prog := fnES [] b_awake12 F_awake12 hκ fun avs p r hF hp => by
  unfold F_awake12 at hF
  split at hF
  case h_2 => cases hF
  simp only [kid, Option.some.injEq, Prod.mk.injEq] at hF
  obtain ⟨rfl, rfl⟩ := hF
  refine ⟨trivial, fun vs w hR => ?_⟩
  have hR' : vs = [] := hR
  subst hR'
  exact k_awake12 hp w
set_option maxRecDepth 100000 in
set_option maxHeartbeats 4000000 in
theorem k_remapDoes (l : List Ar) (c1 : Int) (c2 : Int) (c3 : Int) (c4 : Int) (c5 : Int) (c6 : Int) (c7 : Int) (c8 : Int) (c9 : Int) (Al : Option Addr) (cl : Nat) (kl : l.length ≤ cl) (hside : In64 (⟨c1, c2, c3, c4, c5, c6, c7, c8, c9⟩ : Cl).a ∧ In64 (⟨c1, c2, c3, c4, c5, c6, c7, c8, c9⟩ : Cl).to ∧ In64 (⟨c1, c2, c3, c4, c5, c6, c7, c8, c9⟩ : Cl).f) (w : World) (hl : (Ent.rd Al 6 l.length (encL l)).holds w) :
    Calls Try.prog 35 #[.slice Al l.length cl, (SV.agg [.v (.int .i64 c1), .v (.int .i64 c2), .v (.int .i64 c3), .v (.int .i64 c4), .v (.int .i64 c5), .v (.int .i64 c6), .v (.int .i64 c7), .v (.int .i64 c8), .v (.int .i64 c9)]).den] w fun e w' => ∃ v H', e = .returned v.den ∧ IsX (.val (.c (.v (.bool true)))) v H' ∧ HSat w (fun _ => False) H' w' := by
  obtain ⟨κ, hκ⟩ : ∃ κ : Kp, κ = kid := ⟨_, rfl⟩
  have hH : HSat w (fun _ => False) (heapOf [(nilId, .rd none 1 0 []), (200000, .rd Al 6 (κ _ l.length) (κ _ (encL l)))]) w := by
    subst hκ
    refine HSat.reads fun p hp => ?_
    simp only [List.mem_cons, List.not_mem_nil, or_false] at hp
    rcases hp with rfl | rfl
    · exact ⟨_, _, _, _, rfl, nil_holds w⟩
    · exact ⟨_, _, _, _, rfl, hl⟩
  refine (callsP (n := 40) FTok [e_awake12 hκ, e_some hκ, e_remap hκ, e_rremap hκ, e_rsame hκ] mixed [] Try.func35 rfl (by kernel_rfl) #[.slice Al l.length cl, (SV.agg [.v (.int .i64 c1), .v (.int .i64 c2), .v (.int .i64 c3), .v (.int .i64 c4), .v (.int .i64 c5), .v (.int .i64 c6), .v (.int .i64 c7), .v (.int .i64 c8), .v (.int .i64 c9)]).den] [(0, .c (.sl 200000 Al (κ _ l.length) cl)), (1, .agg [.v (.int .i64 c1), .v (.int .i64 c2), .v (.int .i64 c3), .v (.int .i64 c4), .v (.int .i64 c5), .v (.int .i64 c6), .v (.int .i64 c7), .v (.int .i64 c8), .v (.int .i64 c9)])] _ w rfl [.tmp 4] rfl (by simp) (by subst hκ; simp [SV.den, C.den, kid]) hH (fun v H' => IsX (.val (.c (.v (.bool true)))) v H') hκ ?_).mono ?_
  rotate_left
  · subst hκ; intro e w' h; exact h
  intro P' hP'
  cbv
  repeat' (first | refine And.intro ?_ ?_ | (intro _; cbv) | (refine tst_mk (fun h => ?_) (fun h => ?_) <;> cbv) | (refine LookX.nil ?_; cbv) | (refine LookX.auto hκ ?_; cbv))
  all_goals (try (show Side _; refine ⟨?_⟩; subst hκ; delta kid at *; first | exact rfl | exact trivial | exact ⟨rfl, rfl, .inl rfl⟩ | exact ⟨rfl, rfl, .inl rfl, kl⟩ | exact ⟨rfl, rfl, .inl rfl, encL_ok _⟩ | ((try dsimp only at *); have z1 := madeL_le l; have z2 := someL_le l; (try simp only [maxLen]); have q0 : ¬ (30 : Int) < (l.length : Int) := of_decide_eq_false (by assumption); (try simp only [setTo_len, noS_len, List.length_append, List.length_cons, List.length_nil, List.length_map, and_self, true_or, or_true, eq_self, true_and, and_true, Nat.zero_add, Nat.add_zero]); (first | done | omega); done)))
  all_goals (clear hH; subst hκ; delta kid at *; (try dsimp only at *))
  all_goals (try (exact ⟨trivial⟩))
  all_goals (try (show IsX _ _ _; exact IsX.val_ rfl))
  all_goals (try (exact ⟨by decide⟩))
  all_goals (try (show Side _; exact ⟨some_may l, hside⟩))
  all_goals (try (show Side _; refine ⟨?_⟩; first | (simp only [rem_l1, rem_l2, rem_l3]; done) | exact rem_l4 _ (by with_reducible assumption)))
  all_goals (show IsX _ _ _; refine IsX.bool_ ?_)
  all_goals (first | (have e := rem_self (l := someL l) (by with_reducible assumption); rw [e]; exact sameL_self _) | exact sameL_self _ | (exfalso; rw [eqN_cells] at h; cases h; done))
set_option maxRecDepth 100000 in
set_option maxHeartbeats 4000000 in
theorem k_remapWrong (l : List Ar) (c1 : Int) (c2 : Int) (c3 : Int) (c4 : Int) (c5 : Int) (c6 : Int) (c7 : Int) (c8 : Int) (c9 : Int) (Al : Option Addr) (cl : Nat) (kl : l.length ≤ cl) (hside : True) (w : World) (hl : (Ent.rd Al 6 l.length (encL l)).holds w) :
    Calls Try.prog 36 #[.slice Al l.length cl, (SV.agg [.v (.int .i64 c1), .v (.int .i64 c2), .v (.int .i64 c3), .v (.int .i64 c4), .v (.int .i64 c5), .v (.int .i64 c6), .v (.int .i64 c7), .v (.int .i64 c8), .v (.int .i64 c9)]).den] w fun e w' => ∃ v H', e = .returned v.den ∧ IsX (.val (.c (.v (.bool true)))) v H' ∧ HSat w (fun _ => False) H' w' := by
  obtain ⟨κ, hκ⟩ : ∃ κ : Kp, κ = kid := ⟨_, rfl⟩
  have hH : HSat w (fun _ => False) (heapOf [(nilId, .rd none 1 0 []), (200000, .rd Al 6 (κ _ l.length) (κ _ (encL l)))]) w := by
    subst hκ
    refine HSat.reads fun p hp => ?_
    simp only [List.mem_cons, List.not_mem_nil, or_false] at hp
    rcases hp with rfl | rfl
    · exact ⟨_, _, _, _, rfl, nil_holds w⟩
    · exact ⟨_, _, _, _, rfl, hl⟩
  refine (callsP (n := 33) FTok [e_awake12 hκ, e_rmay hκ, e_remap hκ, e_rsame hκ] mixed [] Try.func36 rfl (by kernel_rfl) #[.slice Al l.length cl, (SV.agg [.v (.int .i64 c1), .v (.int .i64 c2), .v (.int .i64 c3), .v (.int .i64 c4), .v (.int .i64 c5), .v (.int .i64 c6), .v (.int .i64 c7), .v (.int .i64 c8), .v (.int .i64 c9)]).den] [(0, .c (.sl 200000 Al (κ _ l.length) cl)), (1, .agg [.v (.int .i64 c1), .v (.int .i64 c2), .v (.int .i64 c3), .v (.int .i64 c4), .v (.int .i64 c5), .v (.int .i64 c6), .v (.int .i64 c7), .v (.int .i64 c8), .v (.int .i64 c9)])] _ w rfl [.tmp 4] rfl (by simp) (by subst hκ; simp [SV.den, C.den, kid]) hH (fun v H' => IsX (.val (.c (.v (.bool true)))) v H') hκ ?_).mono ?_
  rotate_left
  · subst hκ; intro e w' h; exact h
  intro P' hP'
  cbv
  repeat' (first | refine And.intro ?_ ?_ | (intro _; cbv) | (refine tst_mk (fun h => ?_) (fun h => ?_) <;> cbv) | (refine LookX.nil ?_; cbv) | (refine LookX.auto hκ ?_; cbv))
  all_goals (try (show Side _; refine ⟨?_⟩; subst hκ; delta kid at *; first | exact rfl | exact trivial | exact ⟨rfl, rfl, .inl rfl⟩ | exact ⟨rfl, rfl, .inl rfl, kl⟩ | exact ⟨rfl, rfl, .inl rfl, encL_ok _⟩ | ((try dsimp only at *); have z1 := madeL_le l; have z2 := someL_le l; (try simp only [maxLen]); have q0 : ¬ (40 : Int) < (l.length : Int) := of_decide_eq_false (by assumption); (try simp only [setTo_len, noS_len, List.length_append, List.length_cons, List.length_nil, List.length_map, and_self, true_or, or_true, eq_self, true_and, and_true, Nat.zero_add, Nat.add_zero]); (first | done | omega); done)))
  all_goals (clear hH; subst hκ; delta kid at *; (try dsimp only at *))
  all_goals (try (exact ⟨trivial⟩))
  all_goals (try (show IsX _ _ _; exact IsX.val_ rfl))
  all_goals (try (exact ⟨by decide⟩))
  all_goals (try (show Side _; refine ⟨?_⟩; first | (simp only [rem_l1, rem_l2, rem_l3]; done) | exact rem_l4 _ (by with_reducible assumption)))
  all_goals (show IsX _ _ _; refine IsX.bool_ ?_)
  all_goals (obtain ⟨e1, e2⟩ := rem_no (l := l) (by with_reducible assumption) (⟨c1, c2, c3, c4, c5, c6, c7, c8, c9⟩ : Cl))
  all_goals ((simp only [e1, e2, errA, noAt] at *) <;> (first | done | rfl | exact sameL_self _ | (exfalso; rw [sameL_self] at h; cases h; done) | (exfalso; revert h; decide) | (exfalso; simp_all; done) | (simp_all; done)))
set_option maxRecDepth 100000 in
set_option maxHeartbeats 4000000 in
theorem k_remapStays (l : List Ar) (ka : Int) (Al : Option Addr) (cl : Nat) (kl : l.length ≤ cl) (hside : U8 ka) (w : World) (hl : (Ent.rd Al 6 l.length (encL l)).holds w) :
    Calls Try.prog 33 #[.slice Al l.length cl, (SV.c (.v (.int .u8 ka))).den] w fun e w' => ∃ v H', e = .returned v.den ∧ IsX (.val (.c (.v (.bool true)))) v H' ∧ HSat w (fun _ => False) H' w' := by
  obtain ⟨κ, hκ⟩ : ∃ κ : Kp, κ = kid := ⟨_, rfl⟩
  have hH : HSat w (fun _ => False) (heapOf [(nilId, .rd none 1 0 []), (200000, .rd Al 6 (κ _ l.length) (κ _ (encL l)))]) w := by
    subst hκ
    refine HSat.reads fun p hp => ?_
    simp only [List.mem_cons, List.not_mem_nil, or_false] at hp
    rcases hp with rfl | rfl
    · exact ⟨_, _, _, _, rfl, nil_holds w⟩
    · exact ⟨_, _, _, _, rfl, hl⟩
  refine (callsP (n := 58) FTok [e_awake12 hκ, e_some hκ, e_remap hκ, e_rsame hκ] mixed [] Try.func33 rfl (by kernel_rfl) #[.slice Al l.length cl, (SV.c (.v (.int .u8 ka))).den] [(0, .c (.sl 200000 Al (κ _ l.length) cl)), (1, .c (.v (.int .u8 ka)))] _ w rfl [.tmp 4] rfl (by simp) (by subst hκ; simp [SV.den, C.den, kid]) hH (fun v H' => IsX (.val (.c (.v (.bool true)))) v H') hκ ?_).mono ?_
  rotate_left
  · subst hκ; intro e w' h; exact h
  intro P' hP'
  cbv
  repeat' (first | refine And.intro ?_ ?_ | (intro _; cbv) | (refine tst_mk (fun h => ?_) (fun h => ?_) <;> cbv) | (refine LookX.nil ?_; cbv) | (refine LookX.auto hκ ?_; cbv) | (refine LookN.mk' (x := [.v (.int .i64 (κ _ (nthA (someL l) (ka.toNat % (someL l).length)).s)), .v (.int .i64 (κ _ (nthA (someL l) (ka.toNat % (someL l).length)).e)), .v (.int .i64 (κ _ (nthA (someL l) (ka.toNat % (someL l).length)).p)), .v (.bool (κ _ (nthA (someL l) (ka.toNat % (someL l).length)).sh)), .v (.int .i64 (κ _ (nthA (someL l) (ka.toNat % (someL l).length)).b)), .v (.int .i64 (κ _ (nthA (someL l) (ka.toNat % (someL l).length)).o))]) (by subst hκ; delta kid at *; exact pick_take hside (by with_reducible assumption)) ?_; cbv))
  all_goals (try (show Side _; refine ⟨?_⟩; subst hκ; delta kid at *; first | exact rfl | exact trivial | exact ⟨rfl, rfl, .inl rfl⟩ | exact ⟨rfl, rfl, .inl rfl, kl⟩ | exact ⟨rfl, rfl, .inl rfl, encL_ok _⟩ | exact pick_in hside (by with_reducible assumption) | ((try dsimp only at *); have z1 := madeL_le l; have z2 := someL_le l; (try simp only [maxLen]); have q0 : ¬ (30 : Int) < (l.length : Int) := of_decide_eq_false (by assumption); (try simp only [setTo_len, noS_len, List.length_append, List.length_cons, List.length_nil, List.length_map, and_self, true_or, or_true, eq_self, true_and, and_true, Nat.zero_add, Nat.add_zero]); (first | done | omega); done)))
  all_goals (clear hH; subst hκ; delta kid at *; (try dsimp only at *))
  all_goals (try (exact ⟨trivial⟩))
  all_goals (try (show IsX _ _ _; exact IsX.val_ rfl))
  all_goals (try (exact ⟨by decide⟩))
  all_goals (try (exact ⟨beq_no (by with_reducible assumption)⟩))
  all_goals (try (show Side _; refine ⟨?_⟩; first | (simp only [rem_l1, rem_l2, rem_l3]; done) | exact rem_l4 _ (by with_reducible assumption)))
  all_goals (have hmem := pick_mem hside (by with_reducible assumption))
  all_goals (have hw := len_w (fo.1 ((some_rt l).1 _ hmem)))
  all_goals (obtain ⟨e1, e2⟩ := stays_law (some_may l) hmem (c := (⟨0, (nthA (someL l) (ka.toNat % (someL l).length)).s, IntKind.i64.wrap ((nthA (someL l) (ka.toNat % (someL l).length)).e - (nthA (someL l) (ka.toNat % (someL l).length)).s), IntKind.i64.wrap ((nthA (someL l) (ka.toNat % (someL l).length)).e - (nthA (someL l) (ka.toNat % (someL l).length)).s), 0, 0, 0, 0, 0⟩ : Cl)) rfl hw hw rfl)
  all_goals (clear hw)
  all_goals (show IsX _ _ _; refine IsX.bool_ ?_)
  all_goals ((simp only [e1, e2, okA, noAt] at *) <;> (first | done | rfl | exact sameL_self _ | (exfalso; rw [sameL_self] at h; cases h; done) | (exfalso; revert h; decide) | (exfalso; simp_all; done) | (simp_all; done)))
end Go.Proofs.Ytbcicjmepojlnaa.Eng
