/- Texts of this work, laid together: symbolic execution over the model, contracts of the program's functions, what they come to; conditions: as each says. -/
import Derived.Test.YtbcicjmepojlnaaPkKAG
import Derived.Test.YtbcicjmepojlnaaPkKHB
/- Contracts of functions of lists (printed by genl.py of this work): what each hands back; condition: as its 'hside' says. -/
namespace Go.Proofs.Ytbcicjmepojlnaa.Eng
open Go Go.RowKit
set_option linter.unusedVariables false
set_option linter.unusedSimpArgs false
theorem b_right : Bodied Try.prog 64 := bodied Try.func64 rfl (by decide)
def r_right (l : List Ar) : SV := .c (.v (.bool (rightL l)))
def F_right : FunL := fun κ l rest => match rest with
  | [] => some (κ _ (l.length ≤ 1000000), .c (.v (.bool (κ _ (rightL l)))))
  | _ => none
set_option maxRecDepth 100000 in
set_option maxHeartbeats 4000000 in
theorem k_right (l : List Ar) (hside : l.length ≤ 1000000) (A : Option Addr) (c : Nat) (w : World) (hr : (Ent.rd A 6 l.length (encL l)).holds w) :
    Calls Try.prog 64 #[.slice A l.length c] w fun e w' => e = .returned (r_right l).den ∧ Below w.heap.size w w' := by
  obtain ⟨κ, hκ⟩ : ∃ κ : Kp, κ = kid := ⟨_, rfl⟩
  have hH : HSat w (fun _ => False) (heapOf [(nilId, .rd none 1 0 []), (200000, .rd A 6 (κ _ l.length) (κ _ (encL l)))]) w := by
    subst hκ
    refine HSat.reads fun p hp => ?_
    simp only [List.mem_cons, List.not_mem_nil, or_false] at hp
    rcases hp with rfl | rfl
    · exact ⟨_, _, _, _, rfl, nil_holds w⟩
    · exact ⟨_, _, _, _, rfl, hr⟩
  refine (callsE (n := 40) FTok [e_formed hκ, e_goes hκ] mixed [(4, [[], [], [], [], [], [], [], [], [7], [7], [], [], [], [7, 8, 9, 10, 11, 12], [7, 8, 9, 10, 11, 12], [], [], [], [17], [17], [], [], [17, 18, 19, 20, 21], [], [], [], []])] Try.func64 rfl (by kernel_rfl) #[.slice A l.length c] [(0, .c (.sl 200000 A (κ _ l.length) c))] _ w rfl [.tmp 2] rfl (by simp) (by subst hκ; simp [SV.den, C.den, kid]) hH (fun v _ => Is (κ _ (r_right l).den) v) hκ ?_).mono ?_
  rotate_left
  · subst hκ
    rintro e w' ⟨v, H', rfl, ⟨hv⟩, hH'⟩
    exact ⟨by rw [hv]; rfl, hH'.isBelow⟩
  cbv
  repeat' (first | refine And.intro ?_ ?_ | (intro _; cbv) | (refine tst_mk (fun h => ?_) (fun h => ?_) <;> cbv))
  refine loopG FTok [e_formed hκ, e_goes hκ] mixed [0, 5, 6] (σ := {i : Nat // i ≤ l.length ∧ ∀ j : Nat, j < i → badAt l j = false}) (fun q => [(7, .c (.v (.int .i64 (κ _ ((q.1 : Nat) : Int)))))]) (fun _ => [(200000, .rd A 6 (κ _ l.length) (κ _ (encL l)))]) (fun q => l.length - q.1) ⟨0, ⟨Nat.zero_le _, fun j hj => absurd hj (Nat.not_lt_zero j)⟩⟩ [200000] ?_ (by decide) ?_ hκ ?_
  · cbv
    subst hκ
    delta kid
    exact ⟨rfl, trivial⟩
  · cbv
  rintro ⟨i, hi1, hi2⟩
  cbv
  refine tst_mk (fun h => ?_) (fun h => ?_)
  · have hi : i < l.length := by subst hκ; delta kid at h; have h2 : (i : Int) < (l.length : Int) := of_decide_eq_true h; omega
    cbv
    repeat' (first | refine And.intro ?_ ?_ | (intro _; cbv) | (refine tst_mk (fun h => ?_) (fun h => ?_) <;> cbv) | (refine LookN.mk' (x := [.v (.int .i64 (κ _ (nthA l i).s)), .v (.int .i64 (κ _ (nthA l i).e)), .v (.int .i64 (κ _ (nthA l i).p)), .v (.bool (κ _ (nthA l i).sh)), .v (.int .i64 (κ _ (nthA l i).b)), .v (.int .i64 (κ _ (nthA l i).o))]) (by subst hκ; delta kid at *; exact la_take hi) ?_; cbv) | (refine LookN.mk' (x := [.v (.int .i64 (κ _ (nthA l (i - 1)).s)), .v (.int .i64 (κ _ (nthA l (i - 1)).e)), .v (.int .i64 (κ _ (nthA l (i - 1)).p)), .v (.bool (κ _ (nthA l (i - 1)).sh)), .v (.int .i64 (κ _ (nthA l (i - 1)).b)), .v (.int .i64 (κ _ (nthA l (i - 1)).o))]) (by subst hκ; delta kid at *; exact lp_take hi hside (pos_of (by assumption))) ?_; cbv) | (refine LookR.mk' (x := .v (.int .i64 (κ _ (nthA l (i - 1)).e))) (by subst hκ; delta kid at *; exact lp_e hi hside (pos_of (by assumption))) ?_; cbv))
    all_goals (clear hH; subst hκ; delta kid at *; dsimp only at *)
    all_goals (try (exact ⟨la_ix hi⟩))
    all_goals (try (exact ⟨trivial⟩))
    all_goals (try (exact ⟨rfl⟩))
    all_goals (try (exact ⟨lp_ix hi hside (pos_of (by assumption))⟩))
    all_goals (try simp only [nthA_eta] at *)
    all_goals (try (refine ⟨?_⟩; show Value.bool false = Value.bool (rightL l); rw [right_no hi (by first | exact bad_a (by assumption) | exact bad_b (by assumption) (by assumption) | exact bad_c (by assumption) (by assumption))]; done))
    all_goals (exact ⟨⟨⟨i + 1, ⟨hi, bad_next hi2 (by first | exact good_e (by assumption) (by assumption) | exact good_d (by assumption) (by assumption) (by assumption))⟩⟩, [200000], (by show l.length - (i + 1) < l.length - i; omega), by decide, ⟨rfl, rfl, rfl, rfl, rfl, rfl, rfl, congrArg (Value.int .i64) (nat_succ (by omega)), trivial⟩, ⟨rfl, rfl, rfl, rfl⟩, trivial⟩⟩)
  cbv
  all_goals subst hκ
  all_goals (try delta kid at *)
  all_goals (try dsimp only at *)
  all_goals (try (exact ⟨trivial⟩))
  all_goals (try (exact ⟨by decide⟩))
  all_goals (try (exact ⟨rfl⟩))
  all_goals (try (exact ⟨⟨rfl, rfl, .inl rfl⟩⟩))
  all_goals (try (exact ⟨‹_›⟩))
  all_goals (refine ⟨?_⟩)
  all_goals (show Value.bool true = Value.bool (rightL l))
  all_goals (rw [right_yes (fun j hj => hi2 j (by have h2 : ¬ (i : Int) < (l.length : Int) := of_decide_eq_false h; omega))])
def e_right {κ : Kp} (hκ : κ = kid) : ESpec Try.prog := lisES b_right F_right hκ fun l rest p v hF hp A c w hr => by
  unfold F_right at hF
  split at hF
  · skip
    simp only [kid, Option.some.injEq, Prod.mk.injEq] at hF
    obtain ⟨rfl, rfl⟩ := hF
    exact k_right l hp A c w hr
  · cases hF
end Go.Proofs.Ytbcicjmepojlnaa.Eng
