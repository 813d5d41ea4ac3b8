/- Texts of this work, laid together: symbolic execution over the model, contracts of the program's functions, what they come to; conditions: as each says. -/
import Derived.Test.YtbcicjmepojlnaaPkKHD
/- The first area that has an address: list.Find with its closure; condition: lists of a million areas at most. -/
namespace Go.Proofs.Ytbcicjmepojlnaa.Eng
open Go Go.RowKit
set_option linter.unusedVariables false
set_option linter.unusedSimpArgs false
structure IsB (r : Value) (e1 : Option Ent) (v : SV) (o1 : Option Ent) : Prop where
  h : v.den = r ∧ o1 = e1
theorem gives_nilrd {e : Ent} {A : Option Addr} {z : Nat} (h : rowOf (some e) = some (A, z, 0, [])) : e.gives (.rd A 6 0 []) :=
  ⟨fun w _ => ⟨rfl, fun h => absurd rfl h⟩, fun w _ g hg => by simp [Ent.block] at hg, fun h => by cases h⟩
theorem gives_rowOf {e : Ent} {A : Option Addr} {z n : Nat} {l : List Ar} (h : rowOf (some e) = some (A, z, n, encL l)) (hz : z = 6 ∨ n = 0) (hn : l.length = n) : e.gives (.rd A 6 l.length (encL l)) := by
  subst hn
  rcases hz with rfl | hz
  · cases e with
    | rd A' z' n' xs =>
      injection h with h
      injection h with e1 h
      injection h with e2 h
      injection h with e3 e4
      subst e1 e2 e3 e4
      exact gives_refl _
    | row A' c' t' z' n' xs =>
      injection h with h
      injection h with e1 h
      injection h with e2 h
      injection h with e3 e4
      subst e1 e2 e3 e4
      exact gives_row_rd
    | _ => cases h
  · have : l = [] := List.eq_nil_of_length_eq_zero hz
    subst this
    exact gives_nilrd h
theorem idx_ix {l : List Ar} {x : Int} (h : decide (0 ≤ idxI l x) = true) : 0 < 6 ∧ 0 ≤ idxI l x ∧ idxI l x < (l.length : Int) := by
  have := idx_lt h
  omega
theorem idx_take {l : List Ar} {x : Int} (h : decide (0 ≤ idxI l x) = true) : takeN (encL l) ((idxI l x).toNat * 6) 6 = some [.v (.int .i64 (nthA l (idxL l x)).s), .v (.int .i64 (nthA l (idxL l x)).e), .v (.int .i64 (nthA l (idxL l x)).p), .v (.bool (nthA l (idxL l x)).sh), .v (.int .i64 (nthA l (idxL l x)).b), .v (.int .i64 (nthA l (idxL l x)).o)] := by
  have := idx_lt h
  rw [this.2]
  exact la_take this.1
/-! ### The closure -/
def find1T (κ : Kp) : TSpec := fun args H d K => match args with
  | [.agg [.v (.int .i64 a1), .v (.int .i64 a2), .v (.int .i64 a3), .v (.bool a4), .v (.int .i64 a5), .v (.int .i64 a6)], .c (.loc id b 0)] => match H id with
    | some (.blk b' t [.v (.int .i64 x)]) => t = 2 ∧ Side (κ _ (b = b')) ∧ K (.c (.v (.bool (κ _ (hasA ⟨a1, a2, a3, a4, a5, a6⟩ x))))) []
    | _ => False
  | _ => False
theorem find1T_conj (args : List SV) (H : Heap) (d : Nat) : ConjP (find1T kid args H d) (okKey false H d) := by
  unfold find1T
  split
  · split
    · exact .and_ fun _ => .side fun _ => .one _ _ (by simp)
    · exact .false_
  · exact .false_
def EF (b : Nat) (x : Int) : List (Nat × Ent) := [(200000, .blk b 2 [.v (.int .i64 x)])]
theorem b_find1 : Bodied Try.prog 112 := bodied Try.func112 rfl (by decide)
set_option maxRecDepth 100000 in
set_option maxHeartbeats 4000000 in
theorem k_find1 (a1 a2 a3 : Int) (a4 : Bool) (a5 a6 x : Int) (b : Nat) (w : World) (hH : HSat w (mutE (EF b x)) (heapOf (EF b x)) w) :
    Calls Try.prog 112 #[(SV.agg [.v (.int .i64 a1), .v (.int .i64 a2), .v (.int .i64 a3), .v (.bool a4), .v (.int .i64 a5), .v (.int .i64 a6)]).den, .pointer (some ⟨b, 0, none⟩)] w fun e w' => ∃ v H', e = .returned v.den ∧ IsB (.bool (hasA ⟨a1, a2, a3, a4, a5, a6⟩ x)) (some (.blk b 2 [.v (.int .i64 x)])) v (H' 200000) ∧ HSat w (mutE (EF b x)) H' w' := by
  obtain ⟨κ, hκ⟩ : ∃ κ : Kp, κ = kid := ⟨_, rfl⟩
  refine (callsE (n := 7) FTok [e_has hκ] mixed [] Try.func112 rfl (by kernel_rfl) _ [(0, .agg [.v (.int .i64 a1), .v (.int .i64 a2), .v (.int .i64 a3), .v (.bool a4), .v (.int .i64 a5), .v (.int .i64 a6)]), (1, .c (.loc 200000 b 0))] _ w rfl [.tmp 3] rfl (by simp) (by simp [SV.den, C.den]) hH
    (fun v H' => IsB (κ _ (.bool (hasA ⟨a1, a2, a3, a4, a5, a6⟩ x))) (κ _ (some (.blk b 2 [.v (.int .i64 x)]))) v (H' 200000)) hκ ?_).mono ?_
  rotate_left
  · subst hκ; intro e w' h; exact h
  cbv
  repeat' (first | refine And.intro ?_ ?_ | (intro _; cbv) | (refine tst_mk (fun h => ?_) (fun h => ?_) <;> cbv))
  all_goals subst hκ
  all_goals (first | exact ⟨trivial⟩ | exact ⟨⟨rfl, rfl⟩⟩)
def e_find1 {κ : Kp} (hκ : κ = kid) : ESpec Try.prog := ES b_find1 false find1T hκ find1T_conj fun args H0 H d w0 M w hs hsub hH => by
  have hs' := hs
  unfold find1T at hs'
  split at hs'
  case h_2 => exact hs'.elim
  rename_i a1 a2 a3 a4 a5 a6 id b
  split at hs'
  case h_2 => exact hs'.elim
  rename_i b' t x hid
  obtain ⟨rfl, ⟨h1⟩, _⟩ := hs'
  have h1 : b = b' := h1
  subst h1
  have hG : Gives H [id] (EF b x) := ⟨⟨_, hsub _ _ hid, gives_refl _⟩, trivial⟩
  refine (k_find1 a1 a2 a3 a4 a5 a6 x b w (hH.enter (by simp) hG)).mono ?_
  rintro e w' ⟨v, Hc, rfl, ⟨⟨hv, e1⟩⟩, hHc⟩
  refine ⟨.c (.v (.bool (hasA ⟨a1, a2, a3, a4, a5, a6⟩ x))), [], _, rfl, fun K hK => ?_, fun _ => hv, ?_⟩
  · unfold find1T at hK
    simp only [hid] at hK
    exact hK.2.2
  · refine hH.leave (by simp) hG hHc _ [(id, 200000)] ?_ ?_ (by simp)
    · intro q hq
      simp only [List.mem_cons, List.not_mem_nil, or_false] at hq
      subst hq
      exact ⟨_, _, e1, hsub _ _ hid, gives_refl _, rfl⟩
    · intro q hq
      have n1 : id ≠ q := fun e => hq (id, 200000) (by simp) e
      refine .inr ⟨rfl, fun k t e hk1 hk2 => ?_⟩
      match k, hk2 with
      | 0, h => simp at h; exact absurd h n1
      | k + 1, h => simp at h
/-! ### IndexFunc with it -/
def idxFT (κ : Kp) : TSpec := fun args H d K => match args with
  | [.c (.sl id A n c), .c (.fn g i b off)] => match rowOf (H id), H i with
    | some (A', z, n', xs), some (.blk b' t [.v (.int .i64 x)]) => (t = 2 ∧ g = 112 ∧ off = 0 ∧ id ≠ i) ∧ Side (κ _ (b = b' ∧ A = A' ∧ n = n' ∧ (z = 6 ∨ n = 0))) ∧ LookX encL xs fun l => Side (κ _ (l.length = n ∧ l.length ≤ 1000000)) ∧ K (.c (.v (.int .i64 (κ _ (idxI l x))))) []
    | _, _ => False
  | _ => False
theorem idxFT_conj (args : List SV) (H : Heap) (d : Nat) : ConjP (idxFT kid args H d) (okKey false H d) := by
  unfold idxFT
  split
  · split
    · exact .and_ fun _ => .side fun _ => .look encL_inj fun l _ => .side fun _ => .one _ _ (by simp)
    · exact .false_
  · exact .false_
def EI (κ : Kp) (l : List Ar) (A : Option Addr) (b : Nat) (x : Int) : List (Nat × Ent) := [(200000, .rd A 6 (κ _ l.length) (κ _ (encL l))), (200001, .blk b 2 [.v (.int .i64 x)])]
theorem b_index : Bodied Try.prog 111 := bodied Try.func111 rfl (by decide)
set_option maxRecDepth 100000 in
set_option maxHeartbeats 4000000 in
theorem k_index (l : List Ar) (x : Int) (hside : l.length ≤ 1000000) (A : Option Addr) (c b : Nat) (w : World) (hH : HSat w (mutE (EI kid l A b x)) (heapOf (EI kid l A b x)) w) :
    Calls Try.prog 111 #[.slice A l.length c, (C.fn 112 200001 b 0).den] w fun e w' => ∃ v H', e = .returned v.den ∧ IsB (.int .i64 (idxI l x)) (some (.blk b 2 [.v (.int .i64 x)])) v (H' 200001) ∧ HSat w (mutE (EI kid l A b x)) H' w' := by
  obtain ⟨κ, hκ⟩ : ∃ κ : Kp, κ = kid := ⟨_, rfl⟩
  have hH' : HSat w (mutE (EI kid l A b x)) (heapOf (EI κ l A b x)) w := by subst hκ; exact hH
  refine (callsE (n := 19) FTok [e_find1 hκ] mixed [] Try.func111 rfl (by kernel_rfl) #[.slice A l.length c, (C.fn 112 200001 b 0).den] [(0, .c (.sl 200000 A (κ _ l.length) c)), (1, .c (.fn 112 200001 b 0))] _ w rfl [.tmp 4] rfl (by simp) (by subst hκ; simp [SV.den, C.den, kid]) hH'
    (fun v H' => IsB (κ _ (.int .i64 (idxI l x))) (κ _ (some (.blk b 2 [.v (.int .i64 x)]))) v (H' 200001)) hκ ?_).mono ?_
  rotate_left
  · subst hκ; intro e w' h; exact h
  cbv
  refine loopG FTok [e_find1 hκ] mixed [0, 1, 6, 7] (σ := {i : Nat // i ≤ l.length ∧ ∀ j : Nat, j < i → hasA (nthA l j) x = false}) (fun q => [(8, .c (.v (.int .i64 (κ _ ((q.1 : Nat) : Int)))))]) (fun _ => EI κ l A b x) (fun q => l.length - q.1) ⟨0, ⟨Nat.zero_le _, fun j hj => absurd hj (Nat.not_lt_zero j)⟩⟩ [200000, 200001] ?_ (by decide) ?_ hκ ?_
  · cbv
    subst hκ
    delta kid
    exact ⟨rfl, trivial⟩
  · cbv
  rintro ⟨i, hi1, hi2⟩
  cbv
  refine tst_mk (fun h => ?_) (fun h => ?_)
  · have hi : i < l.length := by subst hκ; delta kid at h; have h2 : (i : Int) < (l.length : Int) := of_decide_eq_true h; omega
    cbv
    repeat' (first | refine And.intro ?_ ?_ | (intro _; cbv) | (refine tst_mk (fun h => ?_) (fun h => ?_) <;> cbv) | (refine LookN.mk' (x := [.v (.int .i64 (κ _ (nthA l i).s)), .v (.int .i64 (κ _ (nthA l i).e)), .v (.int .i64 (κ _ (nthA l i).p)), .v (.bool (κ _ (nthA l i).sh)), .v (.int .i64 (κ _ (nthA l i).b)), .v (.int .i64 (κ _ (nthA l i).o))]) (by subst hκ; delta kid at *; exact la_take hi) ?_; cbv))
    all_goals (clear hH hH'; subst hκ; delta kid at *; dsimp only at *)
    all_goals (try (exact ⟨la_ix hi⟩))
    all_goals (try (exact ⟨rfl⟩))
    all_goals (rw [nthA_eta] at h)
    · exact ⟨⟨congrArg (Value.int .i64) (idx_yes hi h hi2).symm, rfl⟩⟩
    · exact ⟨⟨⟨i + 1, ⟨hi, has_next hi2 h⟩⟩, [200000, 200001], (by show l.length - (i + 1) < l.length - i; omega), by decide, ⟨rfl, rfl, rfl, rfl, rfl, rfl, rfl, rfl, rfl, congrArg (Value.int .i64) (nat_succ (by omega)), trivial⟩, ⟨rfl, rfl, rfl, rfl⟩, ⟨rfl, rfl, rfl⟩, trivial⟩⟩
  · cbv
    subst hκ
    delta kid at *
    dsimp only at *
    exact ⟨⟨congrArg (Value.int .i64) (idx_no (fun j hj => hi2 j (by have h2 : ¬ (i : Int) < (l.length : Int) := of_decide_eq_false h; omega))).symm, rfl⟩⟩
def e_index {κ : Kp} (hκ : κ = kid) : ESpec Try.prog := ES b_index false idxFT hκ idxFT_conj fun args H0 H d w0 M w hs hsub hH => by
  have hs' := hs
  unfold idxFT at hs'
  split at hs'
  case h_2 => exact hs'.elim
  rename_i id A n c g i b off
  split at hs'
  case h_2 => exact hs'.elim
  rename_i A' z n' xs b' t x hrow hi
  obtain ⟨⟨rfl, rfl, rfl, hne⟩, ⟨h1⟩, ⟨l, hx, ⟨h2⟩, _⟩⟩ := hs'
  obtain ⟨rfl, rfl, rfl, hz⟩ := h1
  obtain ⟨h2a, h2b⟩ : l.length = n ∧ l.length ≤ 1000000 := h2
  subst hx
  obtain ⟨e0, he0⟩ : ∃ e0, H0 id = some e0 := by
    cases h : H0 id with
    | none => rw [h] at hrow; cases hrow
    | some e0 => exact ⟨e0, rfl⟩
  have hG : Gives H [id, i] (EI kid l A b x) := ⟨⟨_, hsub _ _ he0, by have := gives_rowOf (e := e0) (by rw [← he0]; exact hrow) hz h2a; exact this⟩, ⟨_, hsub _ _ hi, gives_refl _⟩, trivial⟩
  have hnd : [id, i].Nodup := by simp [hne]
  subst h2a
  refine (k_index l x h2b A c b w (hH.enter hnd hG)).mono ?_
  rintro e w' ⟨v, Hc, rfl, ⟨⟨hv, e1⟩⟩, hHc⟩
  refine ⟨.c (.v (.int .i64 (idxI l x))), [], _, rfl, fun K hK => ?_, fun _ => hv, ?_⟩
  · unfold idxFT at hK
    simp only [hrow, hi] at hK
    obtain ⟨_, _, ⟨l2, hl2, _, h⟩⟩ := hK
    have := encL_inj _ _ hl2
    subst this
    exact h
  · refine hH.leave hnd hG hHc _ [(i, 200001)] ?_ ?_ (by simp)
    · intro q hq
      simp only [List.mem_cons, List.not_mem_nil, or_false] at hq
      subst hq
      exact ⟨_, _, e1, hsub _ _ hi, gives_refl _, rfl⟩
    · intro q hq
      have n1 : i ≠ q := fun e => hq (i, 200001) (by simp) e
      refine .inr ⟨rfl, fun k t e hk1 hk2 => ?_⟩
      match k, hk1, hk2 with
      | 0, h, _ => simp [EI] at h; obtain ⟨_, rfl⟩ := h; rfl
      | 1, _, h => simp at h; exact absurd h n1
      | k + 2, _, h => simp at h
end Go.Proofs.Ytbcicjmepojlnaa.Eng
