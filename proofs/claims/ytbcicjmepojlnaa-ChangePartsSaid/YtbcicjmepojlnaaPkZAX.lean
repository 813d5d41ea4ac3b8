/- Texts of this work, laid together: symbolic execution over the model, contracts of the program's functions, what they come to; conditions: as each says. -/
import Derived.Test.YtbcicjmepojlnaaPkZAL
import Derived.Test.YtbcicjmepojlnaaPkZAQ
import Derived.Test.YtbcicjmepojlnaaPkZAR
import Derived.Test.YtbcicjmepojlnaaPkZAT
import Derived.Test.YtbcicjmepojlnaaPkZAW
/- Contracts of functions (printed by genx.py of this work): what each hands back; condition: as its 'hside' says. -/
namespace Go.Proofs.Ytbcicjmepojlnaa.Eng
open Go Go.RowKit
set_option linter.unusedVariables false
set_option linter.unusedSimpArgs false
theorem b_set : Bodied Try.prog 63 := bodied Try.func63 rfl (by decide)
def F_set : FunX := fun κ avs => match avs with
  | [.lst l xl, .val (.c (.v (.int .i64 lo))), .val (.c (.v (.int .i64 hi))), .val (.c (.v (.int .i64 p)))] => some (κ _ (l.length ≤ 300000), (.row 53 6 ((κ _ ((setL l lo hi p).length))) ((κ _ (encL (setL l lo hi p)))) (fun x => .c x)))
  | _ => none
set_option maxRecDepth 100000 in
set_option maxHeartbeats 4000000 in
theorem k_set (l : List Ar) (lo : Int) (hi : Int) (p : Int) (Al : Option Addr) (cl : Nat) (hside : l.length ≤ 300000) (w : World) (hl : (Ent.rd Al 6 l.length (encL l)).holds w) :
    Calls Try.prog 63 #[.slice Al l.length cl, (SV.c (.v (.int .i64 lo))).den, (SV.c (.v (.int .i64 hi))).den, (SV.c (.v (.int .i64 p))).den] w fun e w' => ∃ v H', e = .returned v.den ∧ IsX (.row 53 6 (((setL l lo hi p).length)) ((encL (setL l lo hi p))) (fun x => .c x)) v H' ∧ HSat w (fun _ => False) H' w' := by
  obtain ⟨κ, hκ⟩ : ∃ κ : Kp, κ = kid := ⟨_, rfl⟩
  have hH : HSat w (fun _ => False) (heapOf [(nilId, .rd none 1 0 []), (200000, .rd Al 6 (κ _ l.length) (κ _ (encL l)))]) w := by
    subst hκ
    refine HSat.reads fun p hp => ?_
    simp only [List.mem_cons, List.not_mem_nil, or_false] at hp
    rcases hp with rfl | rfl
    · exact ⟨_, _, _, _, rfl, nil_holds w⟩
    · exact ⟨_, _, _, _, rfl, hl⟩
  refine (callsP (n := 55) FTok [e_right hκ, e_around hκ, e_within hκ, e_concat hκ, e_joined hκ] mixed [] Try.func63 rfl (by kernel_rfl) #[.slice Al l.length cl, (SV.c (.v (.int .i64 lo))).den, (SV.c (.v (.int .i64 hi))).den, (SV.c (.v (.int .i64 p))).den] [(0, .c (.sl 200000 Al (κ _ l.length) cl)), (1, .c (.v (.int .i64 lo))), (2, .c (.v (.int .i64 hi))), (3, .c (.v (.int .i64 p)))] _ w rfl [.tmp 8] rfl (by simp) (by subst hκ; simp [SV.den, C.den, kid]) hH (fun v H' => IsX (.row 53 6 ((κ _ ((setL l lo hi p).length))) ((κ _ (encL (setL l lo hi p)))) (fun x => .c x)) v H') hκ ?_).mono ?_
  rotate_left
  · subst hκ; intro e w' h; exact h
  intro P' hP'
  cbv
  repeat' (first | refine And.intro ?_ ?_ | (intro _; cbv) | (refine tst_mk (fun h => ?_) (fun h => ?_) <;> cbv) | (refine LookX.nil ?_; cbv) | (refine LookX.auto hκ ?_; cbv))
  all_goals (try (exact (lt_geT (lo := lo) (hi := hi) hκ (by assumption) (by assumption)).elim))
  all_goals (try (exact (lt_geF (lo := lo) (hi := hi) hκ (by assumption) (by assumption)).elim))
  all_goals (try (show Side _; refine ⟨?_⟩; subst hκ; delta kid at *; first | exact rfl | ((try dsimp only at *); have q1 := ahead_le l (floorA lo); have q2 := behind_le l (toI hi); have q3 := within_le l lo hi; (try simp only [setTo_len, List.length_append, List.length_cons, List.length_nil, List.length_map, and_self, true_or, or_true, eq_self, true_and, and_true, Nat.zero_add, Nat.add_zero]); (first | done | omega); done)))
  all_goals (try (show IsX _ _ _; subst hκ; delta kid at *; first | exact IsX.nil_ (set_no (by with_reducible assumption)) rfl | exact IsX.nil_ (set_no2 (by with_reducible assumption)) rfl | exact IsX.nil_ (set_no3 (by with_reducible assumption)) rfl))
  · refine loopP hP' FTok [e_concat hκ, e_joined hκ] mixed [9, 10, 11, 39] (σ := Unit) (fun _ => [(40, .c (.v (.int .i64 0)))]) (fun _ => [(nilId, .rd none 1 0 []), (200000, .rd Al 6 (κ _ l.length) (κ _ (encL l)))]) (fun _ => 0) () [nilId, 200000] ?_ (by decide) ?_ hκ ?_
    · cbv
    · cbv
    intro _
    cbv
    refine tst_mk (fun h => ?_) (fun h => ?_)
    · subst hκ; exact absurd h (by decide)
    cbv
    repeat' (first | refine And.intro ?_ ?_ | (intro _; cbv) | (refine tst_mk (fun h => ?_) (fun h => ?_) <;> cbv) | (refine LookX.nil ?_; cbv) | (refine LookX.auto hκ ?_; cbv))
    all_goals (try (show Side _; refine ⟨?_⟩; subst hκ; delta kid at *; first | exact rfl | ((try dsimp only at *); have q1 := ahead_le l (floorA lo); have q2 := behind_le l (toI hi); have q3 := within_le l lo hi; (try simp only [setTo_len, List.length_append, List.length_cons, List.length_nil, List.length_map, and_self, true_or, or_true, eq_self, true_and, and_true, Nat.zero_add, Nat.add_zero]); (first | done | omega); done)))
    subst hκ
    delta kid at *
    refine IsX.row_ (set_all (l := l) (lo := lo) (hi := hi) (p := p) (by with_reducible assumption) (by with_reducible assumption) (by with_reducible assumption) (by with_reducible assumption)) rfl rfl
  · rename_i A1 c1 A2 c2 A3 c3
    refine loopP hP' FTok [e_concat hκ, e_joined hκ] mixed [3, 9, 10, 11, 39] (σ := Nat) (fun i => [(40, .c (.v (.int .i64 (κ _ ((i : Nat) : Int)))))]) (fun i => [(nilId, .rd none 1 0 []), (28, .row A1 c1 53 6 (κ _ (aheadL (κ _ l) (floorA lo)).length) (κ _ (encL (aheadL (κ _ l) (floorA lo))))), (100028, .row A2 c2 53 6 (κ _ (behindL (κ _ l) (toI hi)).length) (κ _ (encL (behindL (κ _ l) (toI hi))))), (37, .row A3 c3 53 6 (κ _ (κ _ (withinL (κ _ l) lo hi)).length) (κ _ (encL (setTo p (withinL l lo hi) i))))]) (fun i => (withinL l lo hi).length - i) 0 [nilId, 28, 100028, 37] ?_ (by decide) ?_ hκ ?_
    · cbv
      subst hκ
      delta kid
      all_goals repeat' (first | exact rfl | exact trivial | refine And.intro ?_ ?_)
    · cbv
      subst hκ
      delta kid
      all_goals repeat' (first | exact rfl | exact trivial | refine And.intro ?_ ?_ | exact congrArg encL (setTo_zero p _).symm)
    intro i
    cbv
    refine tst_mk (fun h => ?_) (fun h => ?_)
    · have hx : i < (withinL l lo hi).length := by subst hκ; delta kid at h; have h2 : (i : Int) < ((withinL l lo hi).length : Int) := of_decide_eq_true h; omega
      cbv
      repeat' (first | refine And.intro ?_ ?_ | (intro _; cbv) | (refine tst_mk (fun h => ?_) (fun h => ?_) <;> cbv) | (refine LookX.nil ?_; cbv) | (refine LookX.auto hκ ?_; cbv))
      all_goals (clear hH; subst hκ; delta kid at *; (try dsimp only at *))
      · exact ⟨la_ix hx⟩
      · exact ⟨rfl⟩
      · exact ⟨Nat.zero_lt_one, setTo_in hx⟩
      · refine ⟨⟨i + 1, [nilId, 28, 100028, 37], (by show (withinL l lo hi).length - (i + 1) < (withinL l lo hi).length - i; omega), by decide, ?_, ?_⟩⟩
        all_goals repeat' (first | exact rfl | exact trivial | refine And.intro ?_ ?_ | exact congrArg (Value.int .i64) (nat_succ (by have := within_le l lo hi; omega)) | exact setTo_put hx)
    · have hx : ¬ i < (withinL l lo hi).length := by subst hκ; delta kid at h; have h2 : ¬ (i : Int) < ((withinL l lo hi).length : Int) := of_decide_eq_false h; omega
      cbv
      repeat' (first | refine And.intro ?_ ?_ | (intro _; cbv) | (refine tst_mk (fun h => ?_) (fun h => ?_) <;> cbv) | (refine LookX.nil ?_; cbv) | (refine LookX.auto hκ ?_; cbv))
      all_goals (try (show Side _; refine ⟨?_⟩; subst hκ; delta kid at *; first | exact rfl | ((try dsimp only at *); have q1 := ahead_le l (floorA lo); have q2 := behind_le l (toI hi); have q3 := within_le l lo hi; (try simp only [setTo_len, List.length_append, List.length_cons, List.length_nil, List.length_map, and_self, true_or, or_true, eq_self, true_and, and_true, Nat.zero_add, Nat.add_zero]); (first | done | omega); done)))
      subst hκ
      delta kid at *
      refine IsX.row_ (r' := joinedL (aheadL l (floorA lo) ++ setTo p (withinL l lo hi) i ++ behindL l (toI hi))) ?_ rfl rfl
      rw [setTo_all hx]
      exact set_some (l := l) (lo := lo) (hi := hi) (p := p) (by with_reducible assumption) (by with_reducible assumption) (by with_reducible assumption) (by with_reducible assumption)
def e_set {κ : Kp} (hκ : κ = kid) : ESpec Try.prog := fnES [.list, .flat, .flat, .flat] b_set F_set hκ fun avs p r hF hp => by
  unfold F_set at hF
  split at hF
  case h_2 => cases hF
  rename_i l xl lo hi p
  simp only [kid, Option.some.injEq, Prod.mk.injEq] at hF
  obtain ⟨rfl, rfl⟩ := hF
  refine ⟨fun x y h => by simp [SV.den, SV.den0, h], fun vs w hR => ?_⟩
  obtain ⟨il, Al, cl, vs0, rfl, rfl, hl, hR⟩ := hR
  obtain ⟨vs1, rfl, hR⟩ := hR
  obtain ⟨vs2, rfl, hR⟩ := hR
  obtain ⟨vs3, rfl, hR⟩ := hR
  have hR' : vs3 = [] := hR
  subst hR'
  exact k_set l lo hi p Al cl hp w hl
end Go.Proofs.Ytbcicjmepojlnaa.Eng
/- What lists that are not right tell; no condition. -/
namespace Go.Proofs.Ytbcicjmepojlnaa.Eng
open Go Go.RowKit
set_option autoImplicit false
set_option linter.unusedSimpArgs false
set_option linter.unusedVariables false
theorem sameL_self (l : List Ar) : sameL l l = true := (sameL_iff l l).2 rfl
end Go.Proofs.Ytbcicjmepojlnaa.Eng
/- Contracts of functions (printed by genx.py of this work): what each hands back; condition: as its 'hside' says. -/
namespace Go.Proofs.Ytbcicjmepojlnaa.Eng
open Go Go.RowKit
set_option linter.unusedVariables false
set_option linter.unusedSimpArgs false
end Go.Proofs.Ytbcicjmepojlnaa.Eng
