/- Texts of this work, laid together: symbolic execution over the model, contracts of the program's functions, what they come to; conditions: as each says. -/
import Derived.Test.YtbcicjmepojlnaaPkKAG
import Derived.Test.YtbcicjmepojlnaaPkKHC
/- Contracts of functions of lists (printed by genl.py of this work): what each hands back; condition: as its 'hside' says. -/
namespace Go.Proofs.Ytbcicjmepojlnaa.Eng
open Go Go.RowKit
set_option linter.unusedVariables false
set_option linter.unusedSimpArgs false
theorem b_rright : Bodied Try.prog 57 := bodied Try.func57 rfl (by decide)
def r_rright (l : List Ar) : SV := .c (.v (.bool (rightL l)))
def F_rright : FunL := fun κ l rest => match rest with
  | [] => some (κ _ (l.length ≤ 1000000), .c (.v (.bool (κ _ (rightL l)))))
  | _ => none
set_option maxRecDepth 100000 in
set_option maxHeartbeats 4000000 in
theorem k_rright (l : List Ar) (hside : l.length ≤ 1000000) (A : Option Addr) (c : Nat) (w : World) (hr : (Ent.rd A 6 l.length (encL l)).holds w) :
    Calls Try.prog 57 #[.slice A l.length c] w fun e w' => e = .returned (r_rright l).den ∧ Below w.heap.size w w' := by
  obtain ⟨κ, hκ⟩ : ∃ κ : Kp, κ = kid := ⟨_, rfl⟩
  have hH : HSat w (fun _ => False) (heapOf [(nilId, .rd none 1 0 []), (200000, .rd A 6 (κ _ l.length) (κ _ (encL l)))]) w := by
    subst hκ
    refine HSat.reads fun p hp => ?_
    simp only [List.mem_cons, List.not_mem_nil, or_false] at hp
    rcases hp with rfl | rfl
    · exact ⟨_, _, _, _, rfl, nil_holds w⟩
    · exact ⟨_, _, _, _, rfl, hr⟩
  refine (callsE (n := 84) FTok [e_refF hκ, e_refAttr hκ, e_after hκ] mixed [(7, [[], [0], [0], [], [], [0, 1, 2, 3, 4], [0, 1, 2, 3, 4, 5], [0, 1, 2, 3, 4, 5], [0, 1, 2, 3, 4], [0, 1, 2, 3, 4], [0, 1, 2, 3, 4], [0, 1, 2, 3, 4], [0, 1, 2, 3, 4], [], [], [], [15], [0, 1, 2, 3, 4, 5, 6, 7, 8, 9, 10, 11, 12, 13, 14, 15, 16], [16], []]), (8, [[], [0], [], [], [0, 1, 2, 3], [0, 1, 2, 3, 4], [0, 1, 2, 3], [0, 1, 2, 3], [0, 1, 2, 3], [0, 1, 2, 3], [], [], [], [12], [0, 1, 2, 3, 4, 5, 6, 7, 8, 9, 10, 11, 12, 13], [13], []]), (9, [[], [0], [0], [], [], [], [0, 1, 2, 3, 4, 5], [0, 1, 2, 3, 4, 5, 6], [0, 1, 2, 3, 4, 5], [0, 1, 2, 3, 4, 5], [0, 1, 2, 3, 4, 5], [], [], [], [13], [13], [], [], [], [13, 14, 15, 16, 17, 18], [13, 14, 15, 16, 17, 18, 19], [13, 14, 15, 16, 17, 18], [13, 14, 15, 16, 17, 18], [13, 14, 15, 16, 17, 18], [], [], [], [26], [], [], []])] Try.func57 rfl (by kernel_rfl) #[.slice A l.length c] [(0, .c (.sl 200000 A (κ _ l.length) c))] _ w rfl [.tmp 2] rfl (by simp) (by subst hκ; simp [SV.den, C.den, kid]) hH (fun v _ => Is (κ _ (r_rright l).den) v) hκ ?_).mono ?_
  rotate_left
  · subst hκ
    rintro e w' ⟨v, H', rfl, ⟨hv⟩, hH'⟩
    exact ⟨by rw [hv]; rfl, hH'.isBelow⟩
  cbv
  repeat' (first | refine And.intro ?_ ?_ | (intro _; cbv) | (refine tst_mk (fun h => ?_) (fun h => ?_) <;> cbv))
  refine loopG FTok [e_refF hκ, e_refAttr hκ, e_after hκ] mixed [0] (σ := {i : Nat // i ≤ l.length ∧ ∀ j : Nat, j < i → badAt l j = false}) (fun q => [(3, .c (.v (.int .i64 (κ _ ((q.1 : Nat) : Int)))))]) (fun _ => [(200000, .rd A 6 (κ _ l.length) (κ _ (encL l)))]) (fun q => l.length - q.1) ⟨0, ⟨Nat.zero_le _, fun j hj => absurd hj (Nat.not_lt_zero j)⟩⟩ [200000] ?_ (by decide) ?_ hκ ?_
  · cbv
    subst hκ
    delta kid
    exact ⟨rfl, trivial⟩
  · cbv
  rintro ⟨i, hi1, hi2⟩
  cbv
  refine tst_mk (fun h => ?_) (fun h => ?_)
  · have hi : i < l.length := by subst hκ; delta kid at h; have h2 : (i : Int) < (l.length : Int) := of_decide_eq_true h; omega
    cbv
    repeat' (first | refine And.intro ?_ ?_ | (intro _; cbv) | (refine tst_mk (fun h => ?_) (fun h => ?_) <;> cbv) | (refine LookN.mk' (x := [.v (.int .i64 (κ _ (nthA l i).s)), .v (.int .i64 (κ _ (nthA l i).e)), .v (.int .i64 (κ _ (nthA l i).p)), .v (.bool (κ _ (nthA l i).sh)), .v (.int .i64 (κ _ (nthA l i).b)), .v (.int .i64 (κ _ (nthA l i).o))]) (by subst hκ; delta kid at *; exact la_take hi) ?_; cbv) | (refine LookN.mk' (x := [.v (.int .i64 (κ _ (nthA l (i - 1)).s)), .v (.int .i64 (κ _ (nthA l (i - 1)).e)), .v (.int .i64 (κ _ (nthA l (i - 1)).p)), .v (.bool (κ _ (nthA l (i - 1)).sh)), .v (.int .i64 (κ _ (nthA l (i - 1)).b)), .v (.int .i64 (κ _ (nthA l (i - 1)).o))]) (by subst hκ; delta kid at *; exact lp_take hi hside (pos_ne (by assumption))) ?_; cbv) | (refine LookR.mk' (x := .v (.int .i64 (κ _ (nthA l (i - 1)).e))) (by subst hκ; delta kid at *; exact lp_e hi hside (pos_ne (by assumption))) ?_; cbv) | (refine LookR.mk' (x := .v (.int .i64 (κ _ (nthA l i).s))) (by subst hκ; delta kid at *; exact la_s hi) ?_; cbv))
    all_goals (clear hH; subst hκ; delta kid at *; dsimp only at *)
    all_goals (try (exact ⟨la_ix hi⟩))
    all_goals (try (exact ⟨trivial⟩))
    all_goals (try (exact ⟨by decide⟩))
    all_goals (try (exact ⟨rfl⟩))
    all_goals (try (exact ⟨lp_ix hi hside (pos_ne (by assumption))⟩))
    all_goals (try simp only [nthA_eta, refAttr_eta, refF_eq] at *)
    all_goals (try (have hg := goes_eq (pre_formed hi2 (pos_ne (by assumption))) ‹formed (nthA l i) = true›; rw [‹afterA _ _ = _›, ‹((nthA l (i - 1)).e == (nthA l i).s) = true›] at hg; simp only [Bool.and_false, Bool.and_true, Bool.true_and] at hg))
    all_goals (try (have hg := goes_eq (pre_formed hi2 (pos_ne (by assumption))) ‹formed (nthA l i) = true›; rw [‹((nthA l (i - 1)).e == (nthA l i).s) = false›, Bool.false_and] at hg))
    all_goals (try (refine ⟨?_⟩; show Value.bool false = Value.bool (rightL l); rw [right_no hi (by first | exact bad_a (by assumption) | exact bad_b (pos_ne' (by assumption)) (by assumption) | exact bad_c (pos_ne' (by assumption)) (by assumption))]; done))
    all_goals (try (exact ⟨⟨⟨i + 1, ⟨hi, bad_next hi2 (by first | exact good_z (by assumption) (by assumption) | exact good_d (by assumption) (by assumption) (by assumption))⟩⟩, [200000], (by show l.length - (i + 1) < l.length - i; omega), by decide, ⟨rfl, rfl, rfl, congrArg (Value.int .i64) (nat_succ (by omega)), trivial⟩, ⟨rfl, rfl, rfl, rfl⟩, trivial⟩⟩))
  cbv
  all_goals subst hκ
  all_goals (try delta kid at *)
  all_goals (try dsimp only at *)
  all_goals (try (exact ⟨trivial⟩))
  all_goals (try (exact ⟨by decide⟩))
  all_goals (try (exact ⟨rfl⟩))
  all_goals (try (exact ⟨⟨rfl, rfl, .inl rfl⟩⟩))
  all_goals (try (exact ⟨‹_›⟩))
  all_goals (refine ⟨?_⟩)
  all_goals (show Value.bool true = Value.bool (rightL l))
  all_goals (rw [right_yes (fun j hj => hi2 j (by have h2 : ¬ (i : Int) < (l.length : Int) := of_decide_eq_false h; omega))])
def e_rright {κ : Kp} (hκ : κ = kid) : ESpec Try.prog := lisES b_rright F_rright hκ fun l rest p v hF hp A c w hr => by
  unfold F_rright at hF
  split at hF
  · skip
    simp only [kid, Option.some.injEq, Prod.mk.injEq] at hF
    obtain ⟨rfl, rfl⟩ := hF
    exact k_rright l hp A c w hr
  · cases hF
end Go.Proofs.Ytbcicjmepojlnaa.Eng
