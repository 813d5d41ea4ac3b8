/- Texts of this work, laid together: symbolic execution over the model, contracts of the program's functions, what they come to; conditions: as each says. -/
import Derived.Test.YtbcicjmepojlnaaPkKAG
import Derived.Test.YtbcicjmepojlnaaPkKHA
/- Contracts of functions of lists (printed by genl.py of this work): what each hands back; condition: as its 'hside' says. -/
namespace Go.Proofs.Ytbcicjmepojlnaa.Eng
open Go Go.RowKit
set_option linter.unusedVariables false
set_option linter.unusedSimpArgs false
theorem b_rsame : Bodied Try.prog 60 := bodied Try.func60 rfl (by decide)
def r_rsame (l k : List Ar) : SV := .c (.v (.bool (sameL l k)))
def F_rsame : FunL2 := fun κ l k => (κ _ (l.length ≤ 1000000), .c (.v (.bool (κ _ (sameL l k)))))
set_option maxRecDepth 100000 in
set_option maxHeartbeats 4000000 in
theorem k_rsame (l k : List Ar) (hside : l.length ≤ 1000000) (A : Option Addr) (c : Nat) (B : Option Addr) (e : Nat) (w : World) (hr : (Ent.rd A 6 l.length (encL l)).holds w) (hr2 : (Ent.rd B 6 k.length (encL k)).holds w) :
    Calls Try.prog 60 #[.slice A l.length c, .slice B k.length e] w fun x w' => x = .returned (r_rsame l k).den ∧ Below w.heap.size w w' := by
  obtain ⟨κ, hκ⟩ : ∃ κ : Kp, κ = kid := ⟨_, rfl⟩
  have hH : HSat w (fun _ => False) (heapOf [(nilId, .rd none 1 0 []), (200000, .rd A 6 (κ _ l.length) (κ _ (encL l))), (200010, .rd B 6 (κ _ k.length) (κ _ (encL k)))]) w := by
    subst hκ
    refine HSat.reads fun p hp => ?_
    simp only [List.mem_cons, List.not_mem_nil, or_false] at hp
    rcases hp with rfl | rfl | rfl
    · exact ⟨_, _, _, _, rfl, nil_holds w⟩
    · exact ⟨_, _, _, _, rfl, hr⟩
    · exact ⟨_, _, _, _, rfl, hr2⟩
  refine (callsE (n := 26) FTok [] mixed [(6, [[], [0], [], [], [0, 1, 2, 3], [0, 1, 2, 3, 4], [0, 1, 2, 3], [0, 1, 2, 3], []])] Try.func60 rfl (by kernel_rfl) #[.slice A l.length c, .slice B k.length e] [(0, .c (.sl 200000 A (κ _ l.length) c)), (1, .c (.sl 200010 B (κ _ k.length) e))] _ w rfl [.tmp 4] rfl (by simp) (by subst hκ; simp [SV.den, C.den, kid]) hH (fun v _ => Is (κ _ (r_rsame l k).den) v) hκ ?_).mono ?_
  rotate_left
  · subst hκ
    rintro x w' ⟨v, H', rfl, ⟨hv⟩, hH'⟩
    exact ⟨by rw [hv]; rfl, hH'.isBelow⟩
  cbv
  repeat' (first | refine And.intro ?_ ?_ | (intro _; cbv) | (refine tst_mk (fun h => ?_) (fun h => ?_) <;> cbv))
  all_goals (try (refine loopG FTok [] mixed [0, 1] (σ := {i : Nat // i ≤ l.length ∧ ∀ j : Nat, j < i → eqA (nthA l j) (nthA k j) = true}) (fun q => [(5, .c (.v (.int .i64 (κ _ ((q.1 : Nat) : Int)))))]) (fun _ => [(200000, .rd A 6 (κ _ l.length) (κ _ (encL l))), (200010, .rd B 6 (κ _ k.length) (κ _ (encL k)))]) (fun q => l.length - q.1) ⟨0, ⟨Nat.zero_le _, fun j hj => absurd hj (Nat.not_lt_zero j)⟩⟩ [200000, 200010] ?_ (by decide) ?_ hκ ?_))
  rotate_left
  · cbv
    subst hκ
    delta kid
    exact ⟨rfl, trivial⟩
  · cbv
  · have hlk : l.length = k.length := by subst hκ; delta kid at h; have h2 : (((l.length : Nat) : Int) != ((k.length : Nat) : Int)) = false := h; exact Int.ofNat.inj (by simpa using h2)
    rintro ⟨i, hi1, hi2⟩
    cbv
    refine tst_mk (fun h => ?_) (fun h => ?_)
    · have hi : i < l.length := by subst hκ; delta kid at h; have h2 : (i : Int) < (l.length : Int) := of_decide_eq_true h; omega
      have hik : i < k.length := hlk ▸ hi
      cbv
      repeat' (first | refine And.intro ?_ ?_ | (intro _; cbv) | (refine tst_mk (fun h => ?_) (fun h => ?_) <;> cbv) | (refine LookN.mk' (x := [.v (.int .i64 (κ _ (nthA l i).s)), .v (.int .i64 (κ _ (nthA l i).e)), .v (.int .i64 (κ _ (nthA l i).p)), .v (.bool (κ _ (nthA l i).sh)), .v (.int .i64 (κ _ (nthA l i).b)), .v (.int .i64 (κ _ (nthA l i).o))]) (by subst hκ; delta kid at *; exact la_take hi) ?_; cbv) | (refine LookN.mk' (x := [.v (.int .i64 (κ _ (nthA k i).s)), .v (.int .i64 (κ _ (nthA k i).e)), .v (.int .i64 (κ _ (nthA k i).p)), .v (.bool (κ _ (nthA k i).sh)), .v (.int .i64 (κ _ (nthA k i).b)), .v (.int .i64 (κ _ (nthA k i).o))]) (by subst hκ; delta kid at *; exact la_take hik) ?_; cbv))
      all_goals (clear hH; subst hκ; delta kid at *; dsimp only at *)
      all_goals (try (exact ⟨la_ix hi⟩))
      all_goals (try (exact ⟨la_ix hik⟩))
      all_goals (try (exact ⟨rfl⟩))
      · refine ⟨?_⟩
        have h2 : (!eqA (nthA l i) (nthA k i)) = true := h
        show Value.bool false = Value.bool (sameL l k)
        rw [same_no hi (by simpa using h2)]
      · have h2 : (!eqA (nthA l i) (nthA k i)) = false := h
        exact ⟨⟨⟨i + 1, ⟨hi, same_next hi2 (by simpa using h2)⟩⟩, [200000, 200010], (by show l.length - (i + 1) < l.length - i; omega), by decide, ⟨rfl, rfl, rfl, rfl, rfl,  congrArg (Value.int .i64) (nat_succ (by omega)), trivial⟩, ⟨rfl, rfl, rfl, rfl⟩, ⟨rfl, rfl, rfl, rfl⟩, trivial⟩⟩
    · cbv
      subst hκ
      delta kid at *
      dsimp only at *
      refine ⟨?_⟩
      show Value.bool true = Value.bool (sameL l k)
      rw [same_yes (congrArg Nat.cast hlk) (fun j hj => hi2 j (by have h2 : ¬ (i : Int) < (l.length : Int) := of_decide_eq_false h; omega))]
  all_goals subst hκ
  all_goals (try delta kid at *)
  all_goals (try dsimp only at *)
  all_goals (try (exact ⟨trivial⟩))
  all_goals (try (exact ⟨by decide⟩))
  all_goals (try (exact ⟨rfl⟩))
  all_goals (try (exact ⟨⟨rfl, rfl, .inl rfl, rfl, rfl, .inl rfl⟩⟩))
  all_goals (try (exact ⟨⟨rfl, rfl⟩⟩))
  all_goals (try (exact ⟨‹_›⟩))
  all_goals (refine ⟨?_⟩)
  all_goals (show Value.bool false = Value.bool (sameL l k))
  all_goals (rw [same_len (by simpa using h)])
def e_rsame {κ : Kp} (hκ : κ = kid) : ESpec Try.prog := lis2ES b_rsame F_rsame hκ fun l k hp A c B e w hr hr2 => k_rsame l k hp A c B e w hr hr2
end Go.Proofs.Ytbcicjmepojlnaa.Eng
