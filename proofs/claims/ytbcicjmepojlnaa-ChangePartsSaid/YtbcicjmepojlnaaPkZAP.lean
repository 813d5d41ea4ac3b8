/- Texts of this work, laid together: symbolic execution over the model, contracts of the program's functions, what they come to; conditions: as each says. -/
import Derived.Test.YtbcicjmepojlnaaPkZAO
/- slices.Concat of two lists, and of three (printed by conc.py of this work); condition: half a million areas in each. -/
namespace Go.Proofs.Ytbcicjmepojlnaa.Eng
open Go Go.RowKit
set_option linter.unusedSimpArgs false
set_option linter.unusedVariables false
theorem b_concat : Bodied Try.prog 107 := bodied Try.func107 rfl (by decide)
theorem sum_wrap {a b : Nat} (ha : a ≤ 1000000) (hb : b ≤ 1000000) : IntKind.i64.wrap ((a : Int) + (b : Int)) = ((a + b : Nat) : Int) := by
  have : w64 ((a : Int) + (b : Int)) = (a : Int) + (b : Int) := w64_id (by unfold In64; omega)
  unfold w64 at this
  rw [this]
  rfl
theorem sum_neg {a b : Nat} (ha : a ≤ 1000000) (hb : b ≤ 1000000) (h : decide (IntKind.i64.wrap ((a : Int) + (b : Int)) < 0) = true) : False := by
  have h := of_decide_eq_true h
  rw [sum_wrap ha hb] at h
  omega
def EC2 (κ : Kp) (A : Option Addr) (l1 : List Ar) (l2 : List Ar) (B1 : Option Addr) (e1 : Nat) (B2 : Option Addr) (e2 : Nat) : List (Nat × Ent) := [(200000, .rd A 1 2 [.sl 200001 B1 (κ _ l1.length) e1, .sl 200002 B2 (κ _ l2.length) e2]), (200001, .rd B1 6 (κ _ l1.length) (κ _ (encL l1))), (200002, .rd B2 6 (κ _ l2.length) (κ _ (encL l2)))]
theorem holdsEC2 {A : Option Addr} {l1 l2 : List Ar} {B1 : Option Addr} {e1 : Nat} {B2 : Option Addr} {e2 : Nat} {w : World} (hr : (Ent.rd A 1 2 [.sl 200001 B1 (l1.length) e1, .sl 200002 B2 (l2.length) e2]).holds w) (hr1 : (Ent.rd B1 6 l1.length (encL l1)).holds w) (hr2 : (Ent.rd B2 6 l2.length (encL l2)).holds w) {κ : Kp} (hκ : κ = kid) : HSat w (fun _ => False) (heapOf (EC2 κ A l1 l2 B1 e1 B2 e2)) w := by
  subst hκ
  refine HSat.reads fun p hp => ?_
  simp only [EC2, List.mem_cons, List.not_mem_nil, or_false] at hp
  rcases hp with rfl | rfl | rfl
  · exact ⟨_, _, _, _, rfl, hr⟩
  · exact ⟨_, _, _, _, rfl, hr1⟩
  · exact ⟨_, _, _, _, rfl, hr2⟩
def pre2 (l1 : List Ar) (l2 : List Ar) (i : Nat) : List Ar := match i with
  | 0 => ([] : List Ar)
  | 1 => l1
  | _ => l1 ++ l2
theorem pre2_le (l1 : List Ar) (l2 : List Ar) (h1 : l1.length ≤ 300000) (h2 : l2.length ≤ 300000) (i : Nat) : (pre2 l1 l2 i).length ≤ 900000 := by
  unfold pre2
  split
  all_goals (try simp only [List.length_append, List.length_nil])
  all_goals omega
set_option maxRecDepth 100000 in
set_option maxHeartbeats 8000000 in
theorem k_concat2 (l1 : List Ar) (l2 : List Ar) (h1 : l1.length ≤ 300000) (h2 : l2.length ≤ 300000) (A : Option Addr) (c : Nat) (B1 : Option Addr) (e1 : Nat) (B2 : Option Addr) (e2 : Nat) (w : World) (hr : (Ent.rd A 1 2 [.sl 200001 B1 (l1.length) e1, .sl 200002 B2 (l2.length) e2]).holds w) (hr1 : (Ent.rd B1 6 l1.length (encL l1)).holds w) (hr2 : (Ent.rd B2 6 l2.length (encL l2)).holds w) :
    Calls Try.prog 107 #[.slice A 2 c] w fun e w' => ∃ v H', e = .returned v.den ∧ IsR (l1 ++ l2) v H' ∧ HSat w (fun _ => False) H' w' := by
  obtain ⟨κ, hκ⟩ : ∃ κ : Kp, κ = kid := ⟨_, rfl⟩
  have hH := holdsEC2 hr hr1 hr2 hκ
  refine (callsE (n := 36) FTok [e_grow hκ] mixed [] Try.func107 rfl (by kernel_rfl) #[.slice A 2 c] [(0, .c (.sl 200000 A 2 c))] _ w rfl [.tmp 2] rfl (by simp) (by subst hκ; simp [SV.den, C.den, kid]) hH
    (fun v H' => IsR (κ _ (l1 ++ l2)) v H') hκ ?_).mono ?_
  rotate_left
  · subst hκ; intro e w' h; exact h
  cbv
  refine loopG FTok [e_grow hκ] mixed [0, 9, 10] (σ := {i : Nat // i ≤ 2}) (fun q => [(3, .c (.v (.int .i64 (κ _ (((pre2 l1 l2 q.1).length : Nat) : Int))))), (11, .c (.v (.int .i64 ((q.1 : Nat) : Int))))])
    (fun q => EC2 κ A l1 l2 B1 e1 B2 e2) (fun q => 2 - q.1) ⟨0, Nat.zero_le _⟩ [200000, 200001, 200002] ?_ (by decide) ?_ hκ ?_
  · cbv
    subst hκ
    delta kid
    all_goals repeat' (first | exact rfl | exact trivial | refine And.intro ?_ ?_)
  · cbv
    all_goals (subst hκ; delta kid)
    all_goals repeat' (first | exact rfl | exact trivial | refine And.intro ?_ ?_)
  rintro ⟨i, hi⟩
  obtain rfl | rfl | rfl : i = 0 ∨ i = 1 ∨ i = 2 := by omega
  · have hp0 := pre2_le l1 l2 h1 h2 0
    cbv
    refine tst_mk (fun h => ?_) (fun h => ?_)
    rotate_left
    · exfalso; subst hκ; delta kid at h; revert h; decide
    cbv
    repeat' (first | refine And.intro ?_ ?_ | (intro _; cbv) | (refine tst_mk (fun h => ?_) (fun h => ?_) <;> cbv) | (refine LookR.mk' (x := .sl 200001 B1 (κ _ l1.length) e1) (by subst hκ; rfl) ?_; cbv) | (refine LookR.mk' (x := .sl 200002 B2 (κ _ l2.length) e2) (by subst hκ; rfl) ?_; cbv))
    all_goals (clear hH; subst hκ; delta kid at *; try dsimp only at *)
    all_goals (try (exact ⟨by decide⟩))
    all_goals (try (exact ⟨rfl⟩))
    all_goals (try (exact absurd (sum_neg (by omega) (by omega) h) id))
    · have e1 : IntKind.i64.wrap (((pre2 l1 l2 0).length : Int) + (l1.length : Int)) = (((pre2 l1 l2 1).length : Nat) : Int) := by rw [sum_wrap (by omega) (by omega)]; congr 1; simp only [pre2, List.length_append, List.length_nil]; try omega
      refine ⟨⟨⟨1, by decide⟩, [200000, 200001, 200002], (by show 2 - 1 < 2 - 0; decide), (by decide), ?_, ?_⟩⟩
      all_goals repeat' (first | exact rfl | exact trivial | refine And.intro ?_ ?_ | exact congrArg (Value.int .i64) e1)
  · have hp0 := pre2_le l1 l2 h1 h2 1
    cbv
    refine tst_mk (fun h => ?_) (fun h => ?_)
    rotate_left
    · exfalso; subst hκ; delta kid at h; revert h; decide
    cbv
    repeat' (first | refine And.intro ?_ ?_ | (intro _; cbv) | (refine tst_mk (fun h => ?_) (fun h => ?_) <;> cbv) | (refine LookR.mk' (x := .sl 200001 B1 (κ _ l1.length) e1) (by subst hκ; rfl) ?_; cbv) | (refine LookR.mk' (x := .sl 200002 B2 (κ _ l2.length) e2) (by subst hκ; rfl) ?_; cbv))
    all_goals (clear hH; subst hκ; delta kid at *; try dsimp only at *)
    all_goals (try (exact ⟨by decide⟩))
    all_goals (try (exact ⟨rfl⟩))
    all_goals (try (exact absurd (sum_neg (by omega) (by omega) h) id))
    · have e1 : IntKind.i64.wrap (((pre2 l1 l2 1).length : Int) + (l2.length : Int)) = (((pre2 l1 l2 2).length : Nat) : Int) := by rw [sum_wrap (by omega) (by omega)]; congr 1; simp only [pre2, List.length_append, List.length_nil]; try omega
      refine ⟨⟨⟨2, by decide⟩, [200000, 200001, 200002], (by show 2 - 2 < 2 - 1; decide), (by decide), ?_, ?_⟩⟩
      all_goals repeat' (first | exact rfl | exact trivial | refine And.intro ?_ ?_ | exact congrArg (Value.int .i64) e1)
  · have hp0 := pre2_le l1 l2 h1 h2 2
    cbv
    refine tst_mk (fun h => ?_) (fun h => ?_)
    · exfalso; subst hκ; delta kid at h; revert h; decide
    cbv
    repeat' (first | refine And.intro ?_ ?_ | (intro _; cbv))
    · clear hH; subst hκ; delta kid at *; try dsimp only at *
      exact ⟨⟨rfl, rfl, rfl, Int.natCast_nonneg _, by show ((pre2 l1 l2 2).length : Int) ≤ 1000000; omega⟩⟩
    rename_i A2 c2
    refine loopG FTok [e_grow hκ] mixed [0, 25, 26] (σ := {i : Nat // i ≤ 2} × Option Addr × Nat) (fun q => [(6, .c (.sl 300000 q.2.1 (κ _ (pre2 l1 l2 q.1.1).length) q.2.2)), (27, .c (.v (.int .i64 ((q.1.1 : Nat) : Int))))])
      (fun q => EC2 κ A l1 l2 B1 e1 B2 e2 ++ [(300000, .row q.2.1 q.2.2 53 6 (κ _ (pre2 l1 l2 q.1.1).length) (κ _ (encL (pre2 l1 l2 q.1.1))))]) (fun q => 2 - q.1.1) (⟨0, Nat.zero_le _⟩, A2, c2) [200000, 200001, 200002, 24] ?_ (by decide) ?_ hκ ?_
    · cbv
      subst hκ
      delta kid
      all_goals repeat' (first | exact rfl | exact trivial | refine And.intro ?_ ?_)
    · cbv
      all_goals (subst hκ; delta kid)
      all_goals repeat' (first | exact rfl | exact trivial | refine And.intro ?_ ?_)
    rintro ⟨⟨i, hi⟩, A3, c3⟩
    obtain rfl | rfl | rfl : i = 0 ∨ i = 1 ∨ i = 2 := by omega
    · have hp0 := pre2_le l1 l2 h1 h2 0
      cbv
      refine tst_mk (fun h => ?_) (fun h => ?_)
      rotate_left
      · exfalso; subst hκ; delta kid at h; revert h; decide
      cbv
      repeat' (first | refine And.intro ?_ ?_ | (intro _; cbv) | (refine tst_mk (fun h => ?_) (fun h => ?_) <;> cbv) | (refine LookR.mk' (x := .sl 200001 B1 (κ _ l1.length) e1) (by subst hκ; rfl) ?_; cbv) | (refine LookR.mk' (x := .sl 200002 B2 (κ _ l2.length) e2) (by subst hκ; rfl) ?_; cbv))
      all_goals (clear hH; subst hκ; delta kid at *; try dsimp only at *)
      all_goals (try (exact ⟨by decide⟩))
      all_goals (try (exact ⟨rfl⟩))
      all_goals (try (exact ⟨⟨rfl, rfl, rfl, rfl, rfl⟩⟩))
      all_goals (try (exact ⟨⟨rfl, rfl, .inl rfl, encL_ok _⟩⟩))
      all_goals (try (exact ⟨by simp only [maxLen]; omega⟩))
      rename_i A4 c4 _
      have e1 : (pre2 l1 l2 0).length + l1.length = (pre2 l1 l2 1).length := by simp only [pre2, List.length_append, List.length_nil]; try omega
      have e2 : encL (pre2 l1 l2 0) ++ encL l1 = encL (pre2 l1 l2 1) := by simp only [pre2]; rw [← encL_app]; try rfl
      refine ⟨⟨(⟨1, by decide⟩, A4, c4), [200000, 200001, 200002, 33], (by show 2 - 1 < 2 - 0; decide), (by decide), ?_, ?_⟩⟩
      all_goals repeat' (first | exact rfl | exact trivial | refine And.intro ?_ ?_ | exact e1 | exact e2 | exact congrArg (fun n => Value.slice A4 n c4) e1)
    · have hp0 := pre2_le l1 l2 h1 h2 1
      cbv
      refine tst_mk (fun h => ?_) (fun h => ?_)
      rotate_left
      · exfalso; subst hκ; delta kid at h; revert h; decide
      cbv
      repeat' (first | refine And.intro ?_ ?_ | (intro _; cbv) | (refine tst_mk (fun h => ?_) (fun h => ?_) <;> cbv) | (refine LookR.mk' (x := .sl 200001 B1 (κ _ l1.length) e1) (by subst hκ; rfl) ?_; cbv) | (refine LookR.mk' (x := .sl 200002 B2 (κ _ l2.length) e2) (by subst hκ; rfl) ?_; cbv))
      all_goals (clear hH; subst hκ; delta kid at *; try dsimp only at *)
      all_goals (try (exact ⟨by decide⟩))
      all_goals (try (exact ⟨rfl⟩))
      all_goals (try (exact ⟨⟨rfl, rfl, rfl, rfl, rfl⟩⟩))
      all_goals (try (exact ⟨⟨rfl, rfl, .inl rfl, encL_ok _⟩⟩))
      all_goals (try (exact ⟨by simp only [maxLen]; omega⟩))
      rename_i A4 c4 _
      have e1 : (pre2 l1 l2 1).length + l2.length = (pre2 l1 l2 2).length := by simp only [pre2, List.length_append, List.length_nil]; try omega
      have e2 : encL (pre2 l1 l2 1) ++ encL l2 = encL (pre2 l1 l2 2) := by simp only [pre2]; rw [← encL_app]; try rfl
      refine ⟨⟨(⟨2, by decide⟩, A4, c4), [200000, 200001, 200002, 33], (by show 2 - 2 < 2 - 1; decide), (by decide), ?_, ?_⟩⟩
      all_goals repeat' (first | exact rfl | exact trivial | refine And.intro ?_ ?_ | exact e1 | exact e2 | exact congrArg (fun n => Value.slice A4 n c4) e1)
    · cbv
      refine tst_mk (fun h => ?_) (fun h => ?_)
      · exfalso; subst hκ; delta kid at h; revert h; decide
      cbv
      subst hκ
      delta kid at *
      dsimp only at *
      exact ⟨⟨300000, A3, c3, rfl, .inl rfl⟩⟩
def EC3 (κ : Kp) (A : Option Addr) (l1 : List Ar) (l2 : List Ar) (l3 : List Ar) (B1 : Option Addr) (e1 : Nat) (B2 : Option Addr) (e2 : Nat) (B3 : Option Addr) (e3 : Nat) : List (Nat × Ent) := [(200000, .rd A 1 3 [.sl 200001 B1 (κ _ l1.length) e1, .sl 200002 B2 (κ _ l2.length) e2, .sl 200003 B3 (κ _ l3.length) e3]), (200001, .rd B1 6 (κ _ l1.length) (κ _ (encL l1))), (200002, .rd B2 6 (κ _ l2.length) (κ _ (encL l2))), (200003, .rd B3 6 (κ _ l3.length) (κ _ (encL l3)))]
theorem holdsEC3 {A : Option Addr} {l1 l2 l3 : List Ar} {B1 : Option Addr} {e1 : Nat} {B2 : Option Addr} {e2 : Nat} {B3 : Option Addr} {e3 : Nat} {w : World} (hr : (Ent.rd A 1 3 [.sl 200001 B1 (l1.length) e1, .sl 200002 B2 (l2.length) e2, .sl 200003 B3 (l3.length) e3]).holds w) (hr1 : (Ent.rd B1 6 l1.length (encL l1)).holds w) (hr2 : (Ent.rd B2 6 l2.length (encL l2)).holds w) (hr3 : (Ent.rd B3 6 l3.length (encL l3)).holds w) {κ : Kp} (hκ : κ = kid) : HSat w (fun _ => False) (heapOf (EC3 κ A l1 l2 l3 B1 e1 B2 e2 B3 e3)) w := by
  subst hκ
  refine HSat.reads fun p hp => ?_
  simp only [EC3, List.mem_cons, List.not_mem_nil, or_false] at hp
  rcases hp with rfl | rfl | rfl | rfl
  · exact ⟨_, _, _, _, rfl, hr⟩
  · exact ⟨_, _, _, _, rfl, hr1⟩
  · exact ⟨_, _, _, _, rfl, hr2⟩
  · exact ⟨_, _, _, _, rfl, hr3⟩
def pre3 (l1 : List Ar) (l2 : List Ar) (l3 : List Ar) (i : Nat) : List Ar := match i with
  | 0 => ([] : List Ar)
  | 1 => l1
  | 2 => l1 ++ l2
  | _ => l1 ++ l2 ++ l3
theorem pre3_le (l1 : List Ar) (l2 : List Ar) (l3 : List Ar) (h1 : l1.length ≤ 300000) (h2 : l2.length ≤ 300000) (h3 : l3.length ≤ 300000) (i : Nat) : (pre3 l1 l2 l3 i).length ≤ 900000 := by
  unfold pre3
  split
  all_goals (try simp only [List.length_append, List.length_nil])
  all_goals omega
set_option maxRecDepth 100000 in
set_option maxHeartbeats 8000000 in
theorem k_concat3 (l1 : List Ar) (l2 : List Ar) (l3 : List Ar) (h1 : l1.length ≤ 300000) (h2 : l2.length ≤ 300000) (h3 : l3.length ≤ 300000) (A : Option Addr) (c : Nat) (B1 : Option Addr) (e1 : Nat) (B2 : Option Addr) (e2 : Nat) (B3 : Option Addr) (e3 : Nat) (w : World) (hr : (Ent.rd A 1 3 [.sl 200001 B1 (l1.length) e1, .sl 200002 B2 (l2.length) e2, .sl 200003 B3 (l3.length) e3]).holds w) (hr1 : (Ent.rd B1 6 l1.length (encL l1)).holds w) (hr2 : (Ent.rd B2 6 l2.length (encL l2)).holds w) (hr3 : (Ent.rd B3 6 l3.length (encL l3)).holds w) :
    Calls Try.prog 107 #[.slice A 3 c] w fun e w' => ∃ v H', e = .returned v.den ∧ IsR (l1 ++ l2 ++ l3) v H' ∧ HSat w (fun _ => False) H' w' := by
  obtain ⟨κ, hκ⟩ : ∃ κ : Kp, κ = kid := ⟨_, rfl⟩
  have hH := holdsEC3 hr hr1 hr2 hr3 hκ
  refine (callsE (n := 36) FTok [e_grow hκ] mixed [] Try.func107 rfl (by kernel_rfl) #[.slice A 3 c] [(0, .c (.sl 200000 A 3 c))] _ w rfl [.tmp 2] rfl (by simp) (by subst hκ; simp [SV.den, C.den, kid]) hH
    (fun v H' => IsR (κ _ (l1 ++ l2 ++ l3)) v H') hκ ?_).mono ?_
  rotate_left
  · subst hκ; intro e w' h; exact h
  cbv
  refine loopG FTok [e_grow hκ] mixed [0, 9, 10] (σ := {i : Nat // i ≤ 3}) (fun q => [(3, .c (.v (.int .i64 (κ _ (((pre3 l1 l2 l3 q.1).length : Nat) : Int))))), (11, .c (.v (.int .i64 ((q.1 : Nat) : Int))))])
    (fun q => EC3 κ A l1 l2 l3 B1 e1 B2 e2 B3 e3) (fun q => 3 - q.1) ⟨0, Nat.zero_le _⟩ [200000, 200001, 200002, 200003] ?_ (by decide) ?_ hκ ?_
  · cbv
    subst hκ
    delta kid
    all_goals repeat' (first | exact rfl | exact trivial | refine And.intro ?_ ?_)
  · cbv
    all_goals (subst hκ; delta kid)
    all_goals repeat' (first | exact rfl | exact trivial | refine And.intro ?_ ?_)
  rintro ⟨i, hi⟩
  obtain rfl | rfl | rfl | rfl : i = 0 ∨ i = 1 ∨ i = 2 ∨ i = 3 := by omega
  · have hp0 := pre3_le l1 l2 l3 h1 h2 h3 0
    cbv
    refine tst_mk (fun h => ?_) (fun h => ?_)
    rotate_left
    · exfalso; subst hκ; delta kid at h; revert h; decide
    cbv
    repeat' (first | refine And.intro ?_ ?_ | (intro _; cbv) | (refine tst_mk (fun h => ?_) (fun h => ?_) <;> cbv) | (refine LookR.mk' (x := .sl 200001 B1 (κ _ l1.length) e1) (by subst hκ; rfl) ?_; cbv) | (refine LookR.mk' (x := .sl 200002 B2 (κ _ l2.length) e2) (by subst hκ; rfl) ?_; cbv) | (refine LookR.mk' (x := .sl 200003 B3 (κ _ l3.length) e3) (by subst hκ; rfl) ?_; cbv))
    all_goals (clear hH; subst hκ; delta kid at *; try dsimp only at *)
    all_goals (try (exact ⟨by decide⟩))
    all_goals (try (exact ⟨rfl⟩))
    all_goals (try (exact absurd (sum_neg (by omega) (by omega) h) id))
    · have e1 : IntKind.i64.wrap (((pre3 l1 l2 l3 0).length : Int) + (l1.length : Int)) = (((pre3 l1 l2 l3 1).length : Nat) : Int) := by rw [sum_wrap (by omega) (by omega)]; congr 1; simp only [pre3, List.length_append, List.length_nil]; try omega
      refine ⟨⟨⟨1, by decide⟩, [200000, 200001, 200002, 200003], (by show 3 - 1 < 3 - 0; decide), (by decide), ?_, ?_⟩⟩
      all_goals repeat' (first | exact rfl | exact trivial | refine And.intro ?_ ?_ | exact congrArg (Value.int .i64) e1)
  · have hp0 := pre3_le l1 l2 l3 h1 h2 h3 1
    cbv
    refine tst_mk (fun h => ?_) (fun h => ?_)
    rotate_left
    · exfalso; subst hκ; delta kid at h; revert h; decide
    cbv
    repeat' (first | refine And.intro ?_ ?_ | (intro _; cbv) | (refine tst_mk (fun h => ?_) (fun h => ?_) <;> cbv) | (refine LookR.mk' (x := .sl 200001 B1 (κ _ l1.length) e1) (by subst hκ; rfl) ?_; cbv) | (refine LookR.mk' (x := .sl 200002 B2 (κ _ l2.length) e2) (by subst hκ; rfl) ?_; cbv) | (refine LookR.mk' (x := .sl 200003 B3 (κ _ l3.length) e3) (by subst hκ; rfl) ?_; cbv))
    all_goals (clear hH; subst hκ; delta kid at *; try dsimp only at *)
    all_goals (try (exact ⟨by decide⟩))
    all_goals (try (exact ⟨rfl⟩))
    all_goals (try (exact absurd (sum_neg (by omega) (by omega) h) id))
    · have e1 : IntKind.i64.wrap (((pre3 l1 l2 l3 1).length : Int) + (l2.length : Int)) = (((pre3 l1 l2 l3 2).length : Nat) : Int) := by rw [sum_wrap (by omega) (by omega)]; congr 1; simp only [pre3, List.length_append, List.length_nil]; try omega
      refine ⟨⟨⟨2, by decide⟩, [200000, 200001, 200002, 200003], (by show 3 - 2 < 3 - 1; decide), (by decide), ?_, ?_⟩⟩
      all_goals repeat' (first | exact rfl | exact trivial | refine And.intro ?_ ?_ | exact congrArg (Value.int .i64) e1)
  · have hp0 := pre3_le l1 l2 l3 h1 h2 h3 2
    cbv
    refine tst_mk (fun h => ?_) (fun h => ?_)
    rotate_left
    · exfalso; subst hκ; delta kid at h; revert h; decide
    cbv
    repeat' (first | refine And.intro ?_ ?_ | (intro _; cbv) | (refine tst_mk (fun h => ?_) (fun h => ?_) <;> cbv) | (refine LookR.mk' (x := .sl 200001 B1 (κ _ l1.length) e1) (by subst hκ; rfl) ?_; cbv) | (refine LookR.mk' (x := .sl 200002 B2 (κ _ l2.length) e2) (by subst hκ; rfl) ?_; cbv) | (refine LookR.mk' (x := .sl 200003 B3 (κ _ l3.length) e3) (by subst hκ; rfl) ?_; cbv))
    all_goals (clear hH; subst hκ; delta kid at *; try dsimp only at *)
    all_goals (try (exact ⟨by decide⟩))
    all_goals (try (exact ⟨rfl⟩))
    all_goals (try (exact absurd (sum_neg (by omega) (by omega) h) id))
    · have e1 : IntKind.i64.wrap (((pre3 l1 l2 l3 2).length : Int) + (l3.length : Int)) = (((pre3 l1 l2 l3 3).length : Nat) : Int) := by rw [sum_wrap (by omega) (by omega)]; congr 1; simp only [pre3, List.length_append, List.length_nil]; try omega
      refine ⟨⟨⟨3, by decide⟩, [200000, 200001, 200002, 200003], (by show 3 - 3 < 3 - 2; decide), (by decide), ?_, ?_⟩⟩
      all_goals repeat' (first | exact rfl | exact trivial | refine And.intro ?_ ?_ | exact congrArg (Value.int .i64) e1)
  · have hp0 := pre3_le l1 l2 l3 h1 h2 h3 3
    cbv
    refine tst_mk (fun h => ?_) (fun h => ?_)
    · exfalso; subst hκ; delta kid at h; revert h; decide
    cbv
    repeat' (first | refine And.intro ?_ ?_ | (intro _; cbv))
    · clear hH; subst hκ; delta kid at *; try dsimp only at *
      exact ⟨⟨rfl, rfl, rfl, Int.natCast_nonneg _, by show ((pre3 l1 l2 l3 3).length : Int) ≤ 1000000; omega⟩⟩
    rename_i A2 c2
    refine loopG FTok [e_grow hκ] mixed [0, 25, 26] (σ := {i : Nat // i ≤ 3} × Option Addr × Nat) (fun q => [(6, .c (.sl 300000 q.2.1 (κ _ (pre3 l1 l2 l3 q.1.1).length) q.2.2)), (27, .c (.v (.int .i64 ((q.1.1 : Nat) : Int))))])
      (fun q => EC3 κ A l1 l2 l3 B1 e1 B2 e2 B3 e3 ++ [(300000, .row q.2.1 q.2.2 53 6 (κ _ (pre3 l1 l2 l3 q.1.1).length) (κ _ (encL (pre3 l1 l2 l3 q.1.1))))]) (fun q => 3 - q.1.1) (⟨0, Nat.zero_le _⟩, A2, c2) [200000, 200001, 200002, 200003, 24] ?_ (by decide) ?_ hκ ?_
    · cbv
      subst hκ
      delta kid
      all_goals repeat' (first | exact rfl | exact trivial | refine And.intro ?_ ?_)
    · cbv
      all_goals (subst hκ; delta kid)
      all_goals repeat' (first | exact rfl | exact trivial | refine And.intro ?_ ?_)
    rintro ⟨⟨i, hi⟩, A3, c3⟩
    obtain rfl | rfl | rfl | rfl : i = 0 ∨ i = 1 ∨ i = 2 ∨ i = 3 := by omega
    · have hp0 := pre3_le l1 l2 l3 h1 h2 h3 0
      cbv
      refine tst_mk (fun h => ?_) (fun h => ?_)
      rotate_left
      · exfalso; subst hκ; delta kid at h; revert h; decide
      cbv
      repeat' (first | refine And.intro ?_ ?_ | (intro _; cbv) | (refine tst_mk (fun h => ?_) (fun h => ?_) <;> cbv) | (refine LookR.mk' (x := .sl 200001 B1 (κ _ l1.length) e1) (by subst hκ; rfl) ?_; cbv) | (refine LookR.mk' (x := .sl 200002 B2 (κ _ l2.length) e2) (by subst hκ; rfl) ?_; cbv) | (refine LookR.mk' (x := .sl 200003 B3 (κ _ l3.length) e3) (by subst hκ; rfl) ?_; cbv))
      all_goals (clear hH; subst hκ; delta kid at *; try dsimp only at *)
      all_goals (try (exact ⟨by decide⟩))
      all_goals (try (exact ⟨rfl⟩))
      all_goals (try (exact ⟨⟨rfl, rfl, rfl, rfl, rfl⟩⟩))
      all_goals (try (exact ⟨⟨rfl, rfl, .inl rfl, encL_ok _⟩⟩))
      all_goals (try (exact ⟨by simp only [maxLen]; omega⟩))
      rename_i A4 c4 _
      have e1 : (pre3 l1 l2 l3 0).length + l1.length = (pre3 l1 l2 l3 1).length := by simp only [pre3, List.length_append, List.length_nil]; try omega
      have e2 : encL (pre3 l1 l2 l3 0) ++ encL l1 = encL (pre3 l1 l2 l3 1) := by simp only [pre3]; rw [← encL_app]; try rfl
      refine ⟨⟨(⟨1, by decide⟩, A4, c4), [200000, 200001, 200002, 200003, 33], (by show 3 - 1 < 3 - 0; decide), (by decide), ?_, ?_⟩⟩
      all_goals repeat' (first | exact rfl | exact trivial | refine And.intro ?_ ?_ | exact e1 | exact e2 | exact congrArg (fun n => Value.slice A4 n c4) e1)
    · have hp0 := pre3_le l1 l2 l3 h1 h2 h3 1
      cbv
      refine tst_mk (fun h => ?_) (fun h => ?_)
      rotate_left
      · exfalso; subst hκ; delta kid at h; revert h; decide
      cbv
      repeat' (first | refine And.intro ?_ ?_ | (intro _; cbv) | (refine tst_mk (fun h => ?_) (fun h => ?_) <;> cbv) | (refine LookR.mk' (x := .sl 200001 B1 (κ _ l1.length) e1) (by subst hκ; rfl) ?_; cbv) | (refine LookR.mk' (x := .sl 200002 B2 (κ _ l2.length) e2) (by subst hκ; rfl) ?_; cbv) | (refine LookR.mk' (x := .sl 200003 B3 (κ _ l3.length) e3) (by subst hκ; rfl) ?_; cbv))
      all_goals (clear hH; subst hκ; delta kid at *; try dsimp only at *)
      all_goals (try (exact ⟨by decide⟩))
      all_goals (try (exact ⟨rfl⟩))
      all_goals (try (exact ⟨⟨rfl, rfl, rfl, rfl, rfl⟩⟩))
      all_goals (try (exact ⟨⟨rfl, rfl, .inl rfl, encL_ok _⟩⟩))
      all_goals (try (exact ⟨by simp only [maxLen]; omega⟩))
      rename_i A4 c4 _
      have e1 : (pre3 l1 l2 l3 1).length + l2.length = (pre3 l1 l2 l3 2).length := by simp only [pre3, List.length_append, List.length_nil]; try omega
      have e2 : encL (pre3 l1 l2 l3 1) ++ encL l2 = encL (pre3 l1 l2 l3 2) := by simp only [pre3]; rw [← encL_app]; try rfl
      refine ⟨⟨(⟨2, by decide⟩, A4, c4), [200000, 200001, 200002, 200003, 33], (by show 3 - 2 < 3 - 1; decide), (by decide), ?_, ?_⟩⟩
      all_goals repeat' (first | exact rfl | exact trivial | refine And.intro ?_ ?_ | exact e1 | exact e2 | exact congrArg (fun n => Value.slice A4 n c4) e1)
    · have hp0 := pre3_le l1 l2 l3 h1 h2 h3 2
      cbv
      refine tst_mk (fun h => ?_) (fun h => ?_)
      rotate_left
      · exfalso; subst hκ; delta kid at h; revert h; decide
      cbv
      repeat' (first | refine And.intro ?_ ?_ | (intro _; cbv) | (refine tst_mk (fun h => ?_) (fun h => ?_) <;> cbv) | (refine LookR.mk' (x := .sl 200001 B1 (κ _ l1.length) e1) (by subst hκ; rfl) ?_; cbv) | (refine LookR.mk' (x := .sl 200002 B2 (κ _ l2.length) e2) (by subst hκ; rfl) ?_; cbv) | (refine LookR.mk' (x := .sl 200003 B3 (κ _ l3.length) e3) (by subst hκ; rfl) ?_; cbv))
      all_goals (clear hH; subst hκ; delta kid at *; try dsimp only at *)
      all_goals (try (exact ⟨by decide⟩))
      all_goals (try (exact ⟨rfl⟩))
      all_goals (try (exact ⟨⟨rfl, rfl, rfl, rfl, rfl⟩⟩))
      all_goals (try (exact ⟨⟨rfl, rfl, .inl rfl, encL_ok _⟩⟩))
      all_goals (try (exact ⟨by simp only [maxLen]; omega⟩))
      rename_i A4 c4 _
      have e1 : (pre3 l1 l2 l3 2).length + l3.length = (pre3 l1 l2 l3 3).length := by simp only [pre3, List.length_append, List.length_nil]; try omega
      have e2 : encL (pre3 l1 l2 l3 2) ++ encL l3 = encL (pre3 l1 l2 l3 3) := by simp only [pre3]; rw [← encL_app]; try rfl
      refine ⟨⟨(⟨3, by decide⟩, A4, c4), [200000, 200001, 200002, 200003, 33], (by show 3 - 3 < 3 - 2; decide), (by decide), ?_, ?_⟩⟩
      all_goals repeat' (first | exact rfl | exact trivial | refine And.intro ?_ ?_ | exact e1 | exact e2 | exact congrArg (fun n => Value.slice A4 n c4) e1)
    · cbv
      refine tst_mk (fun h => ?_) (fun h => ?_)
      · exfalso; subst hκ; delta kid at h; revert h; decide
      cbv
      subst hκ
      delta kid at *
      dsimp only at *
      exact ⟨⟨300000, A3, c3, rfl, .inl rfl⟩⟩
end Go.Proofs.Ytbcicjmepojlnaa.Eng
/- The contract of slices.Concat, of two lists and of three (printed by conce.py of this work); condition: 300000 areas in each. -/
namespace Go.Proofs.Ytbcicjmepojlnaa.Eng
open Go Go.RowKit
set_option linter.unusedSimpArgs false
set_option linter.unusedVariables false
def concatT (κ : Kp) : TSpec := fun args H d K => match args with
  | [.c (.sl id A n c)] => match H id with
    | some (.row A' c' t z n' [.sl i1 B1 m1 e1, .sl i2 B2 m2 e2]) => match rowOf (H i1), rowOf (H i2) with
      | some (B1', z1, m1', xs1), some (B2', z2, m2', xs2) => (z = 1 ∧ n = 2 ∧ n' = 2) ∧ Side (κ _ (A = A' ∧ B1 = B1' ∧ m1 = m1' ∧ (z1 = 6 ∨ m1 = 0) ∧ B2 = B2' ∧ m2 = m2' ∧ (z2 = 6 ∨ m2 = 0))) ∧ LookX encL xs1 fun l1 => LookX encL xs2 fun l2 => Side (κ _ (l1.length = m1 ∧ l1.length ≤ 300000 ∧ l2.length = m2 ∧ l2.length ≤ 300000)) ∧ ∀ (A2 : Option Addr) (c2 : Nat), K (.c (.sl d A2 (κ _ (l1 ++ l2).length) c2)) [(d, some (.row A2 c2 53 6 (κ _ (l1 ++ l2).length) (κ _ (encL (l1 ++ l2)))))]
      | _, _ => False
    | some (.row A' c' t z n' [.sl i1 B1 m1 e1, .sl i2 B2 m2 e2, .sl i3 B3 m3 e3]) => match rowOf (H i1), rowOf (H i2), rowOf (H i3) with
      | some (B1', z1, m1', xs1), some (B2', z2, m2', xs2), some (B3', z3, m3', xs3) => (z = 1 ∧ n = 3 ∧ n' = 3) ∧ Side (κ _ (A = A' ∧ B1 = B1' ∧ m1 = m1' ∧ (z1 = 6 ∨ m1 = 0) ∧ B2 = B2' ∧ m2 = m2' ∧ (z2 = 6 ∨ m2 = 0) ∧ B3 = B3' ∧ m3 = m3' ∧ (z3 = 6 ∨ m3 = 0))) ∧ LookX encL xs1 fun l1 => LookX encL xs2 fun l2 => LookX encL xs3 fun l3 => Side (κ _ (l1.length = m1 ∧ l1.length ≤ 300000 ∧ l2.length = m2 ∧ l2.length ≤ 300000 ∧ l3.length = m3 ∧ l3.length ≤ 300000)) ∧ ∀ (A2 : Option Addr) (c2 : Nat), K (.c (.sl d A2 (κ _ (l1 ++ l2 ++ l3).length) c2)) [(d, some (.row A2 c2 53 6 (κ _ (l1 ++ l2 ++ l3).length) (κ _ (encL (l1 ++ l2 ++ l3)))))]
      | _, _, _ => False
    | _ => False
  | _ => False
theorem concatT_conj (args : List SV) (H : Heap) (d : Nat) : ConjP (concatT kid args H d) (okKey false H d) := by
  unfold concatT
  split
  · split
    · split
      · exact .and_ fun _ => .side fun _ => .look encL_inj fun l1 _ => .look encL_inj fun l2 _ => .side fun _ => .all2 (fun A2 c2 => .c (.sl d A2 _ c2)) (fun A2 c2 => [(d, some (.row A2 c2 53 6 _ _))]) fun _ _ => okd _ _ _
      · exact .false_
    · split
      · exact .and_ fun _ => .side fun _ => .look encL_inj fun l1 _ => .look encL_inj fun l2 _ => .look encL_inj fun l3 _ => .side fun _ => .all2 (fun A2 c2 => .c (.sl d A2 _ c2)) (fun A2 c2 => [(d, some (.row A2 c2 53 6 _ _))]) fun _ _ => okd _ _ _
      · exact .false_
    · exact .false_
  · exact .false_
def e_concat {κ : Kp} (hκ : κ = kid) : ESpec Try.prog := ES b_concat false concatT hκ concatT_conj fun args H0 H d w0 M w hs hsub hH => by
  have hs' := hs
  unfold concatT at hs'
  split at hs'
  case h_2 => exact hs'.elim
  rename_i id A n c
  split at hs'
  case h_3 => exact hs'.elim
  · rename_i A' c' t z n' i1 B1 m1 e1 i2 B2 m2 e2 hid
    split at hs'
    case h_2 => exact hs'.elim
    rename_i B1' z1 m1' xs1 B2' z2 m2' xs2 hrow1 hrow2
    obtain ⟨⟨rfl, rfl, rfl⟩, ⟨h1⟩, ⟨l1, hx1, ⟨l2, hx2, ⟨h2⟩, _⟩⟩⟩ := hs'
    obtain ⟨rfl, rfl, rfl, hz1, rfl, rfl, hz2⟩ := h1
    obtain ⟨hn1, hb1, hn2, hb2⟩ : l1.length = m1 ∧ l1.length ≤ 300000 ∧ l2.length = m2 ∧ l2.length ≤ 300000 := h2
    have hrd1 : (Ent.rd B1 6 l1.length (encL l1)).holds w := rd_holds (hH.drop hsub) hrow1 hz1 hn1 hx1
    have hrd2 : (Ent.rd B2 6 l2.length (encL l2)).holds w := rd_holds (hH.drop hsub) hrow2 hz2 hn2 hx2
    have hrd : (Ent.rd A 1 2 [.sl 200001 B1 m1 e1, .sl 200002 B2 m2 e2]).holds w := by
      have h0 := gives_row_rd.holds w (hH.holds _ _ (hsub _ _ hid))
      refine ⟨h0.1, fun hx => ?_⟩
      obtain ⟨a, e1, e2, e3⟩ := h0.2 (by simp)
      exact ⟨a, e1, e2, e3⟩
    subst hn1 hn2
    refine (k_concat2 l1 l2 hb1 hb2 A c B1 e1 B2 e2 w hrd hrd1 hrd2).mono ?_
    rintro e w' ⟨v, H', rfl, hr, hH'⟩
    obtain ⟨i, A2, c2, H2, hv, hi, hH2⟩ := hr.row hH'
    refine ⟨.c (.sl d A2 (l1 ++ l2).length c2), [(d, some (.row A2 c2 53 6 (l1 ++ l2).length (encL (l1 ++ l2))))], _, rfl, fun K hK => ?_, fun _ => hv, leaveR hH hi rfl hH2 d⟩
    unfold concatT at hK
    simp only [hid, hrow1, hrow2] at hK
    obtain ⟨_, _, ⟨k1, hk1, ⟨k2, hk2, _, h⟩⟩⟩ := hK
    have := encL_inj _ _ (hx1.symm.trans hk1)
    subst this
    have := encL_inj _ _ (hx2.symm.trans hk2)
    subst this
    exact h A2 c2
  · rename_i A' c' t z n' i1 B1 m1 e1 i2 B2 m2 e2 i3 B3 m3 e3 hid
    split at hs'
    case h_2 => exact hs'.elim
    rename_i B1' z1 m1' xs1 B2' z2 m2' xs2 B3' z3 m3' xs3 hrow1 hrow2 hrow3
    obtain ⟨⟨rfl, rfl, rfl⟩, ⟨h1⟩, ⟨l1, hx1, ⟨l2, hx2, ⟨l3, hx3, ⟨h2⟩, _⟩⟩⟩⟩ := hs'
    obtain ⟨rfl, rfl, rfl, hz1, rfl, rfl, hz2, rfl, rfl, hz3⟩ := h1
    obtain ⟨hn1, hb1, hn2, hb2, hn3, hb3⟩ : l1.length = m1 ∧ l1.length ≤ 300000 ∧ l2.length = m2 ∧ l2.length ≤ 300000 ∧ l3.length = m3 ∧ l3.length ≤ 300000 := h2
    have hrd1 : (Ent.rd B1 6 l1.length (encL l1)).holds w := rd_holds (hH.drop hsub) hrow1 hz1 hn1 hx1
    have hrd2 : (Ent.rd B2 6 l2.length (encL l2)).holds w := rd_holds (hH.drop hsub) hrow2 hz2 hn2 hx2
    have hrd3 : (Ent.rd B3 6 l3.length (encL l3)).holds w := rd_holds (hH.drop hsub) hrow3 hz3 hn3 hx3
    have hrd : (Ent.rd A 1 3 [.sl 200001 B1 m1 e1, .sl 200002 B2 m2 e2, .sl 200003 B3 m3 e3]).holds w := by
      have h0 := gives_row_rd.holds w (hH.holds _ _ (hsub _ _ hid))
      refine ⟨h0.1, fun hx => ?_⟩
      obtain ⟨a, e1, e2, e3⟩ := h0.2 (by simp)
      exact ⟨a, e1, e2, e3⟩
    subst hn1 hn2 hn3
    refine (k_concat3 l1 l2 l3 hb1 hb2 hb3 A c B1 e1 B2 e2 B3 e3 w hrd hrd1 hrd2 hrd3).mono ?_
    rintro e w' ⟨v, H', rfl, hr, hH'⟩
    obtain ⟨i, A2, c2, H2, hv, hi, hH2⟩ := hr.row hH'
    refine ⟨.c (.sl d A2 (l1 ++ l2 ++ l3).length c2), [(d, some (.row A2 c2 53 6 (l1 ++ l2 ++ l3).length (encL (l1 ++ l2 ++ l3))))], _, rfl, fun K hK => ?_, fun _ => hv, leaveR hH hi rfl hH2 d⟩
    unfold concatT at hK
    simp only [hid, hrow1, hrow2, hrow3] at hK
    obtain ⟨_, _, ⟨k1, hk1, ⟨k2, hk2, ⟨k3, hk3, _, h⟩⟩⟩⟩ := hK
    have := encL_inj _ _ (hx1.symm.trans hk1)
    subst this
    have := encL_inj _ _ (hx2.symm.trans hk2)
    subst this
    have := encL_inj _ _ (hx3.symm.trans hk3)
    subst this
    exact h A2 c2
end Go.Proofs.Ytbcicjmepojlnaa.Eng
/- Contracts of functions (printed by gen.py of this work): what each hands back; condition: as its 'hside' says. -/
namespace Go.Proofs.Ytbcicjmepojlnaa.Eng
open Go Go.RowKit
set_option linter.unusedVariables false
set_option linter.unusedSimpArgs false
theorem b_lfloor : Bodied Try.prog 114 := bodied Try.func114 rfl (by decide)
def r_lfloor (n : Int) : SV := .c (.v (.int .i64 (floorA n)))
def F_lfloor (κ : Kp) : List SV → Heap → Option (Prop × SV) := fun args _ => match args with
  | [.c (.v (.int .i64 n))] => some (κ _ (True), .c (.v (.int .i64 (κ _ (floorA n)))))
  | _ => none
set_option maxRecDepth 100000 in
set_option maxHeartbeats 4000000 in
theorem k_lfloor (n : Int) (w : World) (hside : True) : Calls Try.prog 114 #[(SV.c (.v (.int .i64 n))).den] w fun e w' => e = .returned (r_lfloor n).den ∧ Below w.heap.size w w' := by
  obtain ⟨κ, hκ⟩ : ∃ κ : Kp, κ = kid := ⟨_, rfl⟩
  refine pureE FTok [] mixed [] Try.func114 rfl (by kernel_rfl) _ [(0, .c (.v (.int .i64 n)))] _ w 9 rfl [.tmp 2] rfl (by simp) (by simp [SV.den, C.den]) hκ ?_
  cbv
  repeat' (first | refine And.intro ?_ ?_ | (intro _; cbv) | (refine tst_mk (fun h => ?_) (fun h => ?_) <;> cbv))
  all_goals subst hκ
  all_goals (try delta kid at *)
  all_goals (try simp only [kid] at *)
  all_goals (refine ⟨?_⟩)
  all_goals (try (simp_all [r_lfloor, SV.den, C.den, SV.den0, floorA, w64]; done))
  all_goals (try simp_all [r_lfloor, SV.den, C.den, SV.den0, floorA, w64])
  all_goals (try omega)
def e_lfloor {κ : Kp} (hκ : κ = kid) : ESpec Try.prog := pureES b_lfloor F_lfloor hκ fun args H s v w0 M w H' hF hs _ _ => by
  unfold F_lfloor at hF
  split at hF
  · rename_i n
    injection hF with hF
    injection hF with h1 h2
    subst h1 h2
    exact k_lfloor n w hs
  · cases hF
end Go.Proofs.Ytbcicjmepojlnaa.Eng
