/- Texts of this work, laid together: symbolic execution over the model, contracts of the program's functions, what they come to; conditions: as each says. -/
import Derived.Test.YtbcicjmepojlnaaGreatPkGAI
import Derived.Test.YtbcicjmepojlnaaGreatPkGAJ
/- Contracts of functions of lists (printed by genl.py of this work): what each hands back; condition: as its 'hside' says. -/
namespace Go.Proofs.YtbcicjmepojlnaaGreat.Eng
open Go Go.RowKit
set_option linter.unusedVariables false
set_option linter.unusedSimpArgs false
theorem b_right : Bodied Tryz.prog 26 := bodied Tryz.func26 rfl (by decide)
def r_right (l : List Ar) : SV := .c (.v (.bool (rightL l)))
def F_right : FunL := fun κ l rest => match rest with
  | [] => some (κ _ (l.length ≤ 1000000), .c (.v (.bool (κ _ (rightL l)))))
  | _ => none
set_option maxRecDepth 100000 in
set_option maxHeartbeats 4000000 in
theorem k_right (l : List Ar) (hside : l.length ≤ 1000000) (A : Option Addr) (c : Nat) (w : World) (hr : (Ent.rd A 6 l.length (encL l)).holds w) :
    Calls Tryz.prog 26 #[.slice A l.length c] w fun e w' => e = .returned (r_right l).den ∧ Below w.heap.size w w' := by
  obtain ⟨κ, hκ⟩ : ∃ κ : Kp, κ = kid := ⟨_, rfl⟩
  have hH : HSat w (fun _ => False) (heapOf [(nilId, .rd none 1 0 []), (200000, .rd A 6 (κ _ l.length) (κ _ (encL l)))]) w := by
    subst hκ
    refine HSat.reads fun p hp => ?_
    simp only [List.mem_cons, List.not_mem_nil, or_false] at hp
    rcases hp with rfl | rfl
    · exact ⟨_, _, _, _, rfl, nil_holds w⟩
    · exact ⟨_, _, _, _, rfl, hr⟩
  refine (callsE (n := 40) FTok [e_formed hκ, e_goes hκ] mixed [(4, [[], [], [], [], [], [], [], [], [7], [7], [], [], [], [7, 8, 9, 10, 11, 12], [7, 8, 9, 10, 11, 12], [], [], [], [17], [17], [], [], [17, 18, 19, 20, 21], [], [], [], []])] Tryz.func26 rfl (by kernel_rfl) #[.slice A l.length c] [(0, .c (.sl 200000 A (κ _ l.length) c))] _ w rfl [.tmp 2] rfl (by simp) (by subst hκ; simp [SV.den, C.den, kid]) hH (fun v _ => Is (κ _ (r_right l).den) v) hκ ?_).mono ?_
  rotate_left
  · subst hκ
    rintro e w' ⟨v, H', rfl, ⟨hv⟩, hH'⟩
    exact ⟨by rw [hv]; rfl, hH'.isBelow⟩
  cbv
  repeat' (first | refine And.intro ?_ ?_ | (intro _; cbv) | (refine tst_mk (fun h => ?_) (fun h => ?_) <;> cbv))
  refine loopG FTok [e_formed hκ, e_goes hκ] mixed [0, 5, 6] (σ := {i : Nat // i ≤ l.length ∧ ∀ j : Nat, j < i → badAt l j = false}) (fun q => [(7, .c (.v (.int .i64 (κ _ ((q.1 : Nat) : Int)))))]) (fun _ => [(200000, .rd A 6 (κ _ l.length) (κ _ (encL l)))]) (fun q => l.length - q.1) ⟨0, ⟨Nat.zero_le _, fun j hj => absurd hj (Nat.not_lt_zero j)⟩⟩ [200000] ?_ (by decide) ?_ hκ ?_
  · cbv
    subst hκ
    delta kid
    exact ⟨rfl, trivial⟩
  · cbv
  rintro ⟨i, hi1, hi2⟩
  cbv
  refine tst_mk (fun h => ?_) (fun h => ?_)
  · have hi : i < l.length := by subst hκ; delta kid at h; have h2 : (i : Int) < (l.length : Int) := of_decide_eq_true h; omega
    cbv
    repeat' (first | refine And.intro ?_ ?_ | (intro _; cbv) | (refine tst_mk (fun h => ?_) (fun h => ?_) <;> cbv) | (refine LookN.mk' (x := [.v (.int .i64 (κ _ (nthA l i).s)), .v (.int .i64 (κ _ (nthA l i).e)), .v (.int .i64 (κ _ (nthA l i).p)), .v (.bool (κ _ (nthA l i).sh)), .v (.int .i64 (κ _ (nthA l i).b)), .v (.int .i64 (κ _ (nthA l i).o))]) (by subst hκ; delta kid at *; exact la_take hi) ?_; cbv) | (refine LookN.mk' (x := [.v (.int .i64 (κ _ (nthA l (i - 1)).s)), .v (.int .i64 (κ _ (nthA l (i - 1)).e)), .v (.int .i64 (κ _ (nthA l (i - 1)).p)), .v (.bool (κ _ (nthA l (i - 1)).sh)), .v (.int .i64 (κ _ (nthA l (i - 1)).b)), .v (.int .i64 (κ _ (nthA l (i - 1)).o))]) (by subst hκ; delta kid at *; exact lp_take hi hside (pos_of (by assumption))) ?_; cbv) | (refine LookR.mk' (x := .v (.int .i64 (κ _ (nthA l (i - 1)).e))) (by subst hκ; delta kid at *; exact lp_e hi hside (pos_of (by assumption))) ?_; cbv))
    all_goals (clear hH; subst hκ; delta kid at *; dsimp only at *)
    all_goals (try (exact ⟨la_ix hi⟩))
    all_goals (try (exact ⟨trivial⟩))
    all_goals (try (exact ⟨rfl⟩))
    all_goals (try (exact ⟨lp_ix hi hside (pos_of (by assumption))⟩))
    all_goals (try simp only [nthA_eta] at *)
    all_goals (try (refine ⟨?_⟩; show Value.bool false = Value.bool (rightL l); rw [right_no hi (by first | exact bad_a (by assumption) | exact bad_b (by assumption) (by assumption) | exact bad_c (by assumption) (by assumption))]; done))
    all_goals (exact ⟨⟨⟨i + 1, ⟨hi, bad_next hi2 (by first | exact good_e (by assumption) (by assumption) | exact good_d (by assumption) (by assumption) (by assumption))⟩⟩, [200000], (by show l.length - (i + 1) < l.length - i; omega), by decide, ⟨rfl, rfl, rfl, rfl, rfl, rfl, rfl, congrArg (Value.int .i64) (nat_succ (by omega)), trivial⟩, ⟨rfl, rfl, rfl, rfl⟩, trivial⟩⟩)
  cbv
  all_goals subst hκ
  all_goals (try delta kid at *)
  all_goals (try dsimp only at *)
  all_goals (try (exact ⟨trivial⟩))
  all_goals (try (exact ⟨by decide⟩))
  all_goals (try (exact ⟨rfl⟩))
  all_goals (try (exact ⟨⟨rfl, rfl, .inl rfl⟩⟩))
  all_goals (try (exact ⟨‹_›⟩))
  all_goals (refine ⟨?_⟩)
  all_goals (show Value.bool true = Value.bool (rightL l))
  all_goals (rw [right_yes (fun j hj => hi2 j (by have h2 : ¬ (i : Int) < (l.length : Int) := of_decide_eq_false h; omega))])
def e_right {κ : Kp} (hκ : κ = kid) : ESpec Tryz.prog := lisES b_right F_right hκ fun l rest p v hF hp A c w hr => by
  unfold F_right at hF
  split at hF
  · skip
    simp only [kid, Option.some.injEq, Prod.mk.injEq] at hF
    obtain ⟨rfl, rfl⟩ := hF
    exact k_right l hp A c w hr
  · cases hF
end Go.Proofs.YtbcicjmepojlnaaGreat.Eng
/- The first area that has an address: list.Find with its closure; condition: lists of a million areas at most. -/
namespace Go.Proofs.YtbcicjmepojlnaaGreat.Eng
open Go Go.RowKit
set_option linter.unusedVariables false
set_option linter.unusedSimpArgs false
structure IsB (r : Value) (e1 : Option Ent) (v : SV) (o1 : Option Ent) : Prop where
  h : v.den = r ∧ o1 = e1
theorem gives_nilrd {e : Ent} {A : Option Addr} {z : Nat} (h : rowOf (some e) = some (A, z, 0, [])) : e.gives (.rd A 6 0 []) :=
  ⟨fun w _ => ⟨rfl, fun h => absurd rfl h⟩, fun w _ g hg => by simp [Ent.block] at hg, fun h => by cases h⟩
theorem gives_rowOf {e : Ent} {A : Option Addr} {z n : Nat} {l : List Ar} (h : rowOf (some e) = some (A, z, n, encL l)) (hz : z = 6 ∨ n = 0) (hn : l.length = n) : e.gives (.rd A 6 l.length (encL l)) := by
  subst hn
  rcases hz with rfl | hz
  · cases e with
    | rd A' z' n' xs =>
      injection h with h
      injection h with e1 h
      injection h with e2 h
      injection h with e3 e4
      subst e1 e2 e3 e4
      exact gives_refl _
    | row A' c' t' z' n' xs =>
      injection h with h
      injection h with e1 h
      injection h with e2 h
      injection h with e3 e4
      subst e1 e2 e3 e4
      exact gives_row_rd
    | _ => cases h
  · have : l = [] := List.eq_nil_of_length_eq_zero hz
    subst this
    exact gives_nilrd h
theorem idx_ix {l : List Ar} {x : Int} (h : decide (0 ≤ idxI l x) = true) : 0 < 6 ∧ 0 ≤ idxI l x ∧ idxI l x < (l.length : Int) := by
  have := idx_lt h
  omega
theorem idx_take {l : List Ar} {x : Int} (h : decide (0 ≤ idxI l x) = true) : takeN (encL l) ((idxI l x).toNat * 6) 6 = some [.v (.int .i64 (nthA l (idxL l x)).s), .v (.int .i64 (nthA l (idxL l x)).e), .v (.int .i64 (nthA l (idxL l x)).p), .v (.bool (nthA l (idxL l x)).sh), .v (.int .i64 (nthA l (idxL l x)).b), .v (.int .i64 (nthA l (idxL l x)).o)] := by
  have := idx_lt h
  rw [this.2]
  exact la_take this.1
/-! ### The closure -/
def find1T (κ : Kp) : TSpec := fun args H d K => match args with
  | [.agg [.v (.int .i64 a1), .v (.int .i64 a2), .v (.int .i64 a3), .v (.bool a4), .v (.int .i64 a5), .v (.int .i64 a6)], .c (.loc id b 0)] => match H id with
    | some (.blk b' t [.v (.int .i64 x)]) => t = 2 ∧ Side (κ _ (b = b')) ∧ K (.c (.v (.bool (κ _ (hasA ⟨a1, a2, a3, a4, a5, a6⟩ x))))) []
    | _ => False
  | _ => False
theorem find1T_conj (args : List SV) (H : Heap) (d : Nat) : ConjP (find1T kid args H d) (okKey false H d) := by
  unfold find1T
  split
  · split
    · exact .and_ fun _ => .side fun _ => .one _ _ (by simp)
    · exact .false_
  · exact .false_
def EF (b : Nat) (x : Int) : List (Nat × Ent) := [(200000, .blk b 2 [.v (.int .i64 x)])]
theorem b_find1 : Bodied Tryz.prog 87 := bodied Tryz.func87 rfl (by decide)
set_option maxRecDepth 100000 in
set_option maxHeartbeats 4000000 in
theorem k_find1 (a1 a2 a3 : Int) (a4 : Bool) (a5 a6 x : Int) (b : Nat) (w : World) (hH : HSat w (mutE (EF b x)) (heapOf (EF b x)) w) :
    Calls Tryz.prog 87 #[(SV.agg [.v (.int .i64 a1), .v (.int .i64 a2), .v (.int .i64 a3), .v (.bool a4), .v (.int .i64 a5), .v (.int .i64 a6)]).den, .pointer (some ⟨b, 0, none⟩)] w fun e w' => ∃ v H', e = .returned v.den ∧ IsB (.bool (hasA ⟨a1, a2, a3, a4, a5, a6⟩ x)) (some (.blk b 2 [.v (.int .i64 x)])) v (H' 200000) ∧ HSat w (mutE (EF b x)) H' w' := by
  obtain ⟨κ, hκ⟩ : ∃ κ : Kp, κ = kid := ⟨_, rfl⟩
  refine (callsE (n := 7) FTok [e_has hκ] mixed [] Tryz.func87 rfl (by kernel_rfl) _ [(0, .agg [.v (.int .i64 a1), .v (.int .i64 a2), .v (.int .i64 a3), .v (.bool a4), .v (.int .i64 a5), .v (.int .i64 a6)]), (1, .c (.loc 200000 b 0))] _ w rfl [.tmp 3] rfl (by simp) (by simp [SV.den, C.den]) hH
    (fun v H' => IsB (κ _ (.bool (hasA ⟨a1, a2, a3, a4, a5, a6⟩ x))) (κ _ (some (.blk b 2 [.v (.int .i64 x)]))) v (H' 200000)) hκ ?_).mono ?_
  rotate_left
  · subst hκ; intro e w' h; exact h
  cbv
  repeat' (first | refine And.intro ?_ ?_ | (intro _; cbv) | (refine tst_mk (fun h => ?_) (fun h => ?_) <;> cbv))
  all_goals subst hκ
  all_goals (first | exact ⟨trivial⟩ | exact ⟨⟨rfl, rfl⟩⟩)
def e_find1 {κ : Kp} (hκ : κ = kid) : ESpec Tryz.prog := ES b_find1 false find1T hκ find1T_conj fun args H0 H d w0 M w hs hsub hH => by
  have hs' := hs
  unfold find1T at hs'
  split at hs'
  case h_2 => exact hs'.elim
  rename_i a1 a2 a3 a4 a5 a6 id b
  split at hs'
  case h_2 => exact hs'.elim
  rename_i b' t x hid
  obtain ⟨rfl, ⟨h1⟩, _⟩ := hs'
  have h1 : b = b' := h1
  subst h1
  have hG : Gives H [id] (EF b x) := ⟨⟨_, hsub _ _ hid, gives_refl _⟩, trivial⟩
  refine (k_find1 a1 a2 a3 a4 a5 a6 x b w (hH.enter (by simp) hG)).mono ?_
  rintro e w' ⟨v, Hc, rfl, ⟨⟨hv, e1⟩⟩, hHc⟩
  refine ⟨.c (.v (.bool (hasA ⟨a1, a2, a3, a4, a5, a6⟩ x))), [], _, rfl, fun K hK => ?_, fun _ => hv, ?_⟩
  · unfold find1T at hK
    simp only [hid] at hK
    exact hK.2.2
  · refine hH.leave (by simp) hG hHc _ [(id, 200000)] ?_ ?_ (by simp)
    · intro q hq
      simp only [List.mem_cons, List.not_mem_nil, or_false] at hq
      subst hq
      exact ⟨_, _, e1, hsub _ _ hid, gives_refl _, rfl⟩
    · intro q hq
      have n1 : id ≠ q := fun e => hq (id, 200000) (by simp) e
      refine .inr ⟨rfl, fun k t e hk1 hk2 => ?_⟩
      match k, hk2 with
      | 0, h => simp at h; exact absurd h n1
      | k + 1, h => simp at h
/-! ### IndexFunc with it -/
def idxFT (κ : Kp) : TSpec := fun args H d K => match args with
  | [.c (.sl id A n c), .c (.fn g i b off)] => match rowOf (H id), H i with
    | some (A', z, n', xs), some (.blk b' t [.v (.int .i64 x)]) => (t = 2 ∧ g = 87 ∧ off = 0 ∧ id ≠ i) ∧ Side (κ _ (b = b' ∧ A = A' ∧ n = n' ∧ (z = 6 ∨ n = 0))) ∧ LookX encL xs fun l => Side (κ _ (l.length = n ∧ l.length ≤ 1000000)) ∧ K (.c (.v (.int .i64 (κ _ (idxI l x))))) []
    | _, _ => False
  | _ => False
theorem idxFT_conj (args : List SV) (H : Heap) (d : Nat) : ConjP (idxFT kid args H d) (okKey false H d) := by
  unfold idxFT
  split
  · split
    · exact .and_ fun _ => .side fun _ => .look encL_inj fun l _ => .side fun _ => .one _ _ (by simp)
    · exact .false_
  · exact .false_
def EI (κ : Kp) (l : List Ar) (A : Option Addr) (b : Nat) (x : Int) : List (Nat × Ent) := [(200000, .rd A 6 (κ _ l.length) (κ _ (encL l))), (200001, .blk b 2 [.v (.int .i64 x)])]
theorem b_index : Bodied Tryz.prog 86 := bodied Tryz.func86 rfl (by decide)
set_option maxRecDepth 100000 in
set_option maxHeartbeats 4000000 in
theorem k_index (l : List Ar) (x : Int) (hside : l.length ≤ 1000000) (A : Option Addr) (c b : Nat) (w : World) (hH : HSat w (mutE (EI kid l A b x)) (heapOf (EI kid l A b x)) w) :
    Calls Tryz.prog 86 #[.slice A l.length c, (C.fn 87 200001 b 0).den] w fun e w' => ∃ v H', e = .returned v.den ∧ IsB (.int .i64 (idxI l x)) (some (.blk b 2 [.v (.int .i64 x)])) v (H' 200001) ∧ HSat w (mutE (EI kid l A b x)) H' w' := by
  obtain ⟨κ, hκ⟩ : ∃ κ : Kp, κ = kid := ⟨_, rfl⟩
  have hH' : HSat w (mutE (EI kid l A b x)) (heapOf (EI κ l A b x)) w := by subst hκ; exact hH
  refine (callsE (n := 19) FTok [e_find1 hκ] mixed [] Tryz.func86 rfl (by kernel_rfl) #[.slice A l.length c, (C.fn 87 200001 b 0).den] [(0, .c (.sl 200000 A (κ _ l.length) c)), (1, .c (.fn 87 200001 b 0))] _ w rfl [.tmp 4] rfl (by simp) (by subst hκ; simp [SV.den, C.den, kid]) hH'
    (fun v H' => IsB (κ _ (.int .i64 (idxI l x))) (κ _ (some (.blk b 2 [.v (.int .i64 x)]))) v (H' 200001)) hκ ?_).mono ?_
  rotate_left
  · subst hκ; intro e w' h; exact h
  cbv
  refine loopG FTok [e_find1 hκ] mixed [0, 1, 6, 7] (σ := {i : Nat // i ≤ l.length ∧ ∀ j : Nat, j < i → hasA (nthA l j) x = false}) (fun q => [(8, .c (.v (.int .i64 (κ _ ((q.1 : Nat) : Int)))))]) (fun _ => EI κ l A b x) (fun q => l.length - q.1) ⟨0, ⟨Nat.zero_le _, fun j hj => absurd hj (Nat.not_lt_zero j)⟩⟩ [200000, 200001] ?_ (by decide) ?_ hκ ?_
  · cbv
    subst hκ
    delta kid
    exact ⟨rfl, trivial⟩
  · cbv
  rintro ⟨i, hi1, hi2⟩
  cbv
  refine tst_mk (fun h => ?_) (fun h => ?_)
  · have hi : i < l.length := by subst hκ; delta kid at h; have h2 : (i : Int) < (l.length : Int) := of_decide_eq_true h; omega
    cbv
    repeat' (first | refine And.intro ?_ ?_ | (intro _; cbv) | (refine tst_mk (fun h => ?_) (fun h => ?_) <;> cbv) | (refine LookN.mk' (x := [.v (.int .i64 (κ _ (nthA l i).s)), .v (.int .i64 (κ _ (nthA l i).e)), .v (.int .i64 (κ _ (nthA l i).p)), .v (.bool (κ _ (nthA l i).sh)), .v (.int .i64 (κ _ (nthA l i).b)), .v (.int .i64 (κ _ (nthA l i).o))]) (by subst hκ; delta kid at *; exact la_take hi) ?_; cbv))
    all_goals (clear hH hH'; subst hκ; delta kid at *; dsimp only at *)
    all_goals (try (exact ⟨la_ix hi⟩))
    all_goals (try (exact ⟨rfl⟩))
    all_goals (rw [nthA_eta] at h)
    · exact ⟨⟨congrArg (Value.int .i64) (idx_yes hi h hi2).symm, rfl⟩⟩
    · exact ⟨⟨⟨i + 1, ⟨hi, has_next hi2 h⟩⟩, [200000, 200001], (by show l.length - (i + 1) < l.length - i; omega), by decide, ⟨rfl, rfl, rfl, rfl, rfl, rfl, rfl, rfl, rfl, congrArg (Value.int .i64) (nat_succ (by omega)), trivial⟩, ⟨rfl, rfl, rfl, rfl⟩, ⟨rfl, rfl, rfl⟩, trivial⟩⟩
  · cbv
    subst hκ
    delta kid at *
    dsimp only at *
    exact ⟨⟨congrArg (Value.int .i64) (idx_no (fun j hj => hi2 j (by have h2 : ¬ (i : Int) < (l.length : Int) := of_decide_eq_false h; omega))).symm, rfl⟩⟩
def e_index {κ : Kp} (hκ : κ = kid) : ESpec Tryz.prog := ES b_index false idxFT hκ idxFT_conj fun args H0 H d w0 M w hs hsub hH => by
  have hs' := hs
  unfold idxFT at hs'
  split at hs'
  case h_2 => exact hs'.elim
  rename_i id A n c g i b off
  split at hs'
  case h_2 => exact hs'.elim
  rename_i A' z n' xs b' t x hrow hi
  obtain ⟨⟨rfl, rfl, rfl, hne⟩, ⟨h1⟩, ⟨l, hx, ⟨h2⟩, _⟩⟩ := hs'
  obtain ⟨rfl, rfl, rfl, hz⟩ := h1
  obtain ⟨h2a, h2b⟩ : l.length = n ∧ l.length ≤ 1000000 := h2
  subst hx
  obtain ⟨e0, he0⟩ : ∃ e0, H0 id = some e0 := by
    cases h : H0 id with
    | none => rw [h] at hrow; cases hrow
    | some e0 => exact ⟨e0, rfl⟩
  have hG : Gives H [id, i] (EI kid l A b x) := ⟨⟨_, hsub _ _ he0, by have := gives_rowOf (e := e0) (by rw [← he0]; exact hrow) hz h2a; exact this⟩, ⟨_, hsub _ _ hi, gives_refl _⟩, trivial⟩
  have hnd : [id, i].Nodup := by simp [hne]
  subst h2a
  refine (k_index l x h2b A c b w (hH.enter hnd hG)).mono ?_
  rintro e w' ⟨v, Hc, rfl, ⟨⟨hv, e1⟩⟩, hHc⟩
  refine ⟨.c (.v (.int .i64 (idxI l x))), [], _, rfl, fun K hK => ?_, fun _ => hv, ?_⟩
  · unfold idxFT at hK
    simp only [hrow, hi] at hK
    obtain ⟨_, _, ⟨l2, hl2, _, h⟩⟩ := hK
    have := encL_inj _ _ hl2
    subst this
    exact h
  · refine hH.leave hnd hG hHc _ [(i, 200001)] ?_ ?_ (by simp)
    · intro q hq
      simp only [List.mem_cons, List.not_mem_nil, or_false] at hq
      subst hq
      exact ⟨_, _, e1, hsub _ _ hi, gives_refl _, rfl⟩
    · intro q hq
      have n1 : i ≠ q := fun e => hq (i, 200001) (by simp) e
      refine .inr ⟨rfl, fun k t e hk1 hk2 => ?_⟩
      match k, hk1, hk2 with
      | 0, h, _ => simp [EI] at h; obtain ⟨_, rfl⟩ := h; rfl
      | 1, _, h => simp at h; exact absurd h n1
      | k + 2, _, h => simp at h
end Go.Proofs.YtbcicjmepojlnaaGreat.Eng
/- Contracts of functions of lists (printed by genl.py of this work): what each hands back; condition: as its 'hside' says. -/
namespace Go.Proofs.YtbcicjmepojlnaaGreat.Eng
open Go Go.RowKit
set_option linter.unusedVariables false
set_option linter.unusedSimpArgs false
theorem b_find : Bodied Tryz.prog 49 := bodied Tryz.func49 rfl (by decide)
def r_find (l : List Ar) (x : Int) : SV := .tup [.agg [.v (.int .i64 ((findL l x).s)), .v (.int .i64 ((findL l x).e)), .v (.int .i64 ((findL l x).p)), .v (.bool ((findL l x).sh)), .v (.int .i64 ((findL l x).b)), .v (.int .i64 ((findL l x).o))], .c (.v (.bool (foundL l x)))]
def F_find : FunL := fun κ l rest => match rest with
  | [.c (.v (.int .i64 x))] => some (κ _ (l.length ≤ 1000000), .tup [.agg [.v (.int .i64 (κ _ ((findL l x).s))), .v (.int .i64 (κ _ ((findL l x).e))), .v (.int .i64 (κ _ ((findL l x).p))), .v (.bool (κ _ ((findL l x).sh))), .v (.int .i64 (κ _ ((findL l x).b))), .v (.int .i64 (κ _ ((findL l x).o)))], .c (.v (.bool (κ _ (foundL l x))))])
  | _ => none
set_option maxRecDepth 100000 in
set_option maxHeartbeats 4000000 in
theorem k_find (l : List Ar) (x : Int) (hside : l.length ≤ 1000000) (A : Option Addr) (c : Nat) (w : World) (hr : (Ent.rd A 6 l.length (encL l)).holds w) :
    Calls Tryz.prog 49 #[.slice A l.length c, (SV.c (.v (.int .i64 x))).den] w fun e w' => e = .returned (r_find l x).den ∧ Below w.heap.size w w' := by
  obtain ⟨κ, hκ⟩ : ∃ κ : Kp, κ = kid := ⟨_, rfl⟩
  have hH : HSat w (fun _ => False) (heapOf [(nilId, .rd none 1 0 []), (200000, .rd A 6 (κ _ l.length) (κ _ (encL l)))]) w := by
    subst hκ
    refine HSat.reads fun p hp => ?_
    simp only [List.mem_cons, List.not_mem_nil, or_false] at hp
    rcases hp with rfl | rfl
    · exact ⟨_, _, _, _, rfl, nil_holds w⟩
    · exact ⟨_, _, _, _, rfl, hr⟩
  refine (callsE (n := 21) FTok [e_index hκ, e_right hκ] mixed [] Tryz.func49 rfl (by kernel_rfl) #[.slice A l.length c, (SV.c (.v (.int .i64 x))).den] [(0, .c (.sl 200000 A (κ _ l.length) c)), (1, .c (.v (.int .i64 x)))] _ w rfl [.cell 4 49, .tmp 5] rfl (by simp) (by subst hκ; simp [SV.den, C.den, kid]) hH (fun v _ => Is (κ _ (r_find l x).den) v) hκ ?_).mono ?_
  rotate_left
  · subst hκ
    rintro e w' ⟨v, H', rfl, ⟨hv⟩, hH'⟩
    exact ⟨by rw [hv]; rfl, hH'.isBelow⟩
  cbv
  repeat' (first | refine And.intro ?_ ?_ | (intro _; cbv) | (refine tst_mk (fun h => ?_) (fun h => ?_) <;> cbv) | ((refine LookN.mk' (x := [.v (.int .i64 (κ _ (nthA l (idxL l x)).s)), .v (.int .i64 (κ _ (nthA l (idxL l x)).e)), .v (.int .i64 (κ _ (nthA l (idxL l x)).p)), .v (.bool (κ _ (nthA l (idxL l x)).sh)), .v (.int .i64 (κ _ (nthA l (idxL l x)).b)), .v (.int .i64 (κ _ (nthA l (idxL l x)).o))]) (by subst hκ; delta kid at *; exact idx_take (by assumption)) ?_; cbv); cbv) | ((refine LookX.auto hκ ?_; cbv); cbv))
  all_goals subst hκ
  all_goals (try delta kid at *)
  all_goals (try dsimp only at *)
  all_goals (try (exact ⟨trivial⟩))
  all_goals (try (exact ⟨by decide⟩))
  all_goals (try (exact ⟨rfl⟩))
  all_goals (try (exact ⟨⟨rfl, rfl, .inl rfl⟩⟩))
  all_goals (try (exact ⟨‹_›⟩))
  all_goals (try (exact ⟨idx_ix (by assumption)⟩))
  all_goals (try (exact ⟨⟨rfl, hside⟩⟩))
  all_goals (try (exact ⟨⟨rfl, rfl, rfl, .inl rfl⟩⟩))
  all_goals (refine ⟨?_⟩)
  all_goals simp only [r_find, findL, foundL, SV.den, SV.den0, C.den, GE.ge, List.map_cons, List.map_nil]
  all_goals try (simp only [*, Bool.and_true, Bool.true_and, Bool.and_false, Bool.false_and, if_true, if_false, Bool.false_eq_true, noAr])
  all_goals (try rfl)
def e_find {κ : Kp} (hκ : κ = kid) : ESpec Tryz.prog := lisES b_find F_find hκ fun l rest p v hF hp A c w hr => by
  unfold F_find at hF
  split at hF
  · rename_i x
    simp only [kid, Option.some.injEq, Prod.mk.injEq] at hF
    obtain ⟨rfl, rfl⟩ := hF
    exact k_find l x hp A c w hr
  · cases hF
end Go.Proofs.YtbcicjmepojlnaaGreat.Eng
/- Contracts of functions (printed by gen.py of this work): what each hands back; condition: as its 'hside' says. -/
namespace Go.Proofs.YtbcicjmepojlnaaGreat.Eng
open Go Go.RowKit
set_option linter.unusedVariables false
set_option linter.unusedSimpArgs false
theorem b_refAttr : Bodied Tryz.prog 94 := bodied Tryz.func94 rfl (by decide)
def r_refAttr (a : Ar) (q : Int) : SV := .tup [.agg [.v (.int .i64 ((refAttr a q).p)), .v (.bool ((refAttr a q).sh)), .v (.int .i64 ((refAttr a q).b)), .v (.int .i64 ((refAttr a q).o))], .c (.v (.bool (refHas a q)))]
def F_refAttr (κ : Kp) : List SV → Heap → Option (Prop × SV) := fun args _ => match args with
  | [.agg [.v (.int .i64 a1), .v (.int .i64 a2), .v (.int .i64 a3), .v (.bool a4), .v (.int .i64 a5), .v (.int .i64 a6)], .c (.v (.int .i64 q))] => some (κ _ (True), .tup [.agg [.v (.int .i64 (κ _ ((refAttr (⟨a1, a2, a3, a4, a5, a6⟩ : Ar) q).p))), .v (.bool (κ _ ((refAttr (⟨a1, a2, a3, a4, a5, a6⟩ : Ar) q).sh))), .v (.int .i64 (κ _ ((refAttr (⟨a1, a2, a3, a4, a5, a6⟩ : Ar) q).b))), .v (.int .i64 (κ _ ((refAttr (⟨a1, a2, a3, a4, a5, a6⟩ : Ar) q).o)))], .c (.v (.bool (κ _ (refHas (⟨a1, a2, a3, a4, a5, a6⟩ : Ar) q))))])
  | _ => none
set_option maxRecDepth 100000 in
set_option maxHeartbeats 4000000 in
theorem k_refAttr (a1 : Int) (a2 : Int) (a3 : Int) (a4 : Bool) (a5 : Int) (a6 : Int) (q : Int) (w : World) (hside : True) : Calls Tryz.prog 94 #[(SV.agg [.v (.int .i64 a1), .v (.int .i64 a2), .v (.int .i64 a3), .v (.bool a4), .v (.int .i64 a5), .v (.int .i64 a6)]).den, (SV.c (.v (.int .i64 q))).den] w fun e w' => e = .returned (r_refAttr (⟨a1, a2, a3, a4, a5, a6⟩ : Ar) q).den ∧ Below w.heap.size w w' := by
  obtain ⟨κ, hκ⟩ : ∃ κ : Kp, κ = kid := ⟨_, rfl⟩
  refine pureE FTok [] mixed [] Tryz.func94 rfl (by kernel_rfl) _ [(0, .agg [.v (.int .i64 a1), .v (.int .i64 a2), .v (.int .i64 a3), .v (.bool a4), .v (.int .i64 a5), .v (.int .i64 a6)]), (1, .c (.v (.int .i64 q)))] _ w 41 rfl [.cell 4 31, .tmp 5] rfl (by simp) (by simp [SV.den, C.den]) hκ ?_
  cbv
  repeat' (first | refine And.intro ?_ ?_ | (intro _; cbv) | (refine tst_mk (fun h => ?_) (fun h => ?_) <;> cbv))
  all_goals subst hκ
  all_goals (try delta kid at *)
  all_goals (try (refine ⟨?_⟩))
  all_goals (try decide)
  all_goals simp only [r_refAttr, SV.den, SV.den0, C.den, refAttr, refHas, noAt, GT.gt, GE.ge, List.map_cons, List.map_nil]
  all_goals (simp only [*, Bool.or_true, Bool.true_or, Bool.or_false, Bool.false_or, if_true, if_false, Bool.false_eq_true])
  all_goals (try rfl)
def e_refAttr {κ : Kp} (hκ : κ = kid) : ESpec Tryz.prog := pureES b_refAttr F_refAttr hκ fun args H s v w0 M w H' hF hs _ _ => by
  unfold F_refAttr at hF
  split at hF
  · rename_i a1 a2 a3 a4 a5 a6 q
    injection hF with hF
    injection hF with h1 h2
    subst h1 h2
    exact k_refAttr a1 a2 a3 a4 a5 a6 q w hs
  · cases hF
theorem b_after : Bodied Tryz.prog 107 := bodied Tryz.func107 rfl (by decide)
def r_after (x : At) (y : At) : SV := .c (.v (.bool (afterA x y)))
def F_after (κ : Kp) : List SV → Heap → Option (Prop × SV) := fun args _ => match args with
  | [.agg [.v (.int .i64 x1), .v (.bool x2), .v (.int .i64 x3), .v (.int .i64 x4)], .agg [.v (.int .i64 y1), .v (.bool y2), .v (.int .i64 y3), .v (.int .i64 y4)]] => some (κ _ (True), .c (.v (.bool (κ _ (afterA (⟨x1, x2, x3, x4⟩ : At) (⟨y1, y2, y3, y4⟩ : At))))))
  | _ => none
set_option maxRecDepth 100000 in
set_option maxHeartbeats 4000000 in
theorem k_after (x1 : Int) (x2 : Bool) (x3 : Int) (x4 : Int) (y1 : Int) (y2 : Bool) (y3 : Int) (y4 : Int) (w : World) (hside : True) : Calls Tryz.prog 107 #[(SV.agg [.v (.int .i64 x1), .v (.bool x2), .v (.int .i64 x3), .v (.int .i64 x4)]).den, (SV.agg [.v (.int .i64 y1), .v (.bool y2), .v (.int .i64 y3), .v (.int .i64 y4)]).den] w fun e w' => e = .returned (r_after (⟨x1, x2, x3, x4⟩ : At) (⟨y1, y2, y3, y4⟩ : At)).den ∧ Below w.heap.size w w' := by
  obtain ⟨κ, hκ⟩ : ∃ κ : Kp, κ = kid := ⟨_, rfl⟩
  refine pureE FTok [] mixed [] Tryz.func107 rfl (by kernel_rfl) _ [(0, .agg [.v (.int .i64 x1), .v (.bool x2), .v (.int .i64 x3), .v (.int .i64 x4)]), (1, .agg [.v (.int .i64 y1), .v (.bool y2), .v (.int .i64 y3), .v (.int .i64 y4)])] _ w 17 rfl [.tmp 4] rfl (by simp) (by simp [SV.den, C.den]) hκ ?_
  cbv
  repeat' (first | refine And.intro ?_ ?_ | (intro _; cbv) | (refine tst_mk (fun h => ?_) (fun h => ?_) <;> cbv))
  all_goals subst hκ
  all_goals (try delta kid at *)
  all_goals (try (refine ⟨?_⟩))
  all_goals simp only [r_after, SV.den, C.den, afterA, GT.gt]
  all_goals (simp only [*, if_true, if_false, Bool.false_eq_true])
  all_goals (try rfl)
def e_after {κ : Kp} (hκ : κ = kid) : ESpec Tryz.prog := pureES b_after F_after hκ fun args H s v w0 M w H' hF hs _ _ => by
  unfold F_after at hF
  split at hF
  · rename_i x1 x2 x3 x4 y1 y2 y3 y4
    injection hF with hF
    injection hF with h1 h2
    subst h1 h2
    exact k_after x1 x2 x3 x4 y1 y2 y3 y4 w hs
  · cases hF
end Go.Proofs.YtbcicjmepojlnaaGreat.Eng
/- Contracts of functions of lists (printed by genl.py of this work): what each hands back; condition: as its 'hside' says. -/
namespace Go.Proofs.YtbcicjmepojlnaaGreat.Eng
open Go Go.RowKit
set_option linter.unusedVariables false
set_option linter.unusedSimpArgs false
end Go.Proofs.YtbcicjmepojlnaaGreat.Eng
/- Contracts of functions of lists (printed by genl.py of this work): what each hands back; condition: as its 'hside' says. -/
namespace Go.Proofs.YtbcicjmepojlnaaGreat.Eng
open Go Go.RowKit
set_option linter.unusedVariables false
set_option linter.unusedSimpArgs false
theorem b_equal : Bodied Tryz.prog 68 := bodied Tryz.func68 rfl (by decide)
def r_equal (l k : List Ar) : SV := .c (.v (.bool (sameL l k)))
def F_equal : FunL2 := fun κ l k => (κ _ (l.length ≤ 1000000), .c (.v (.bool (κ _ (sameL l k)))))
set_option maxRecDepth 100000 in
set_option maxHeartbeats 4000000 in
theorem k_equal (l k : List Ar) (hside : l.length ≤ 1000000) (A : Option Addr) (c : Nat) (B : Option Addr) (e : Nat) (w : World) (hr : (Ent.rd A 6 l.length (encL l)).holds w) (hr2 : (Ent.rd B 6 k.length (encL k)).holds w) :
    Calls Tryz.prog 68 #[.slice A l.length c, .slice B k.length e] w fun x w' => x = .returned (r_equal l k).den ∧ Below w.heap.size w w' := by
  obtain ⟨κ, hκ⟩ : ∃ κ : Kp, κ = kid := ⟨_, rfl⟩
  have hH : HSat w (fun _ => False) (heapOf [(nilId, .rd none 1 0 []), (200000, .rd A 6 (κ _ l.length) (κ _ (encL l))), (200010, .rd B 6 (κ _ k.length) (κ _ (encL k)))]) w := by
    subst hκ
    refine HSat.reads fun p hp => ?_
    simp only [List.mem_cons, List.not_mem_nil, or_false] at hp
    rcases hp with rfl | rfl | rfl
    · exact ⟨_, _, _, _, rfl, nil_holds w⟩
    · exact ⟨_, _, _, _, rfl, hr⟩
    · exact ⟨_, _, _, _, rfl, hr2⟩
  refine (callsE (n := 26) FTok [] mixed [(6, [[], [0], [], [], [0, 1, 2, 3], [0, 1, 2, 3, 4], [0, 1, 2, 3], [0, 1, 2, 3], []])] Tryz.func68 rfl (by kernel_rfl) #[.slice A l.length c, .slice B k.length e] [(0, .c (.sl 200000 A (κ _ l.length) c)), (1, .c (.sl 200010 B (κ _ k.length) e))] _ w rfl [.tmp 4] rfl (by simp) (by subst hκ; simp [SV.den, C.den, kid]) hH (fun v _ => Is (κ _ (r_equal l k).den) v) hκ ?_).mono ?_
  rotate_left
  · subst hκ
    rintro x w' ⟨v, H', rfl, ⟨hv⟩, hH'⟩
    exact ⟨by rw [hv]; rfl, hH'.isBelow⟩
  cbv
  repeat' (first | refine And.intro ?_ ?_ | (intro _; cbv) | (refine tst_mk (fun h => ?_) (fun h => ?_) <;> cbv))
  all_goals (try (refine loopG FTok [] mixed [0, 1, 12] (σ := {i : Nat // i ≤ l.length ∧ ∀ j : Nat, j < i → eqA (nthA l j) (nthA k j) = true}) (fun q => [(13, .c (.v (.int .i64 (κ _ ((q.1 : Nat) : Int)))))]) (fun _ => [(200000, .rd A 6 (κ _ l.length) (κ _ (encL l))), (200010, .rd B 6 (κ _ k.length) (κ _ (encL k)))]) (fun q => l.length - q.1) ⟨0, ⟨Nat.zero_le _, fun j hj => absurd hj (Nat.not_lt_zero j)⟩⟩ [200000, 200010] ?_ (by decide) ?_ hκ ?_))
  rotate_left
  · cbv
    subst hκ
    delta kid
    exact ⟨rfl, trivial⟩
  · cbv
  · have hlk : l.length = k.length := by subst hκ; delta kid at h; have h2 : (((l.length : Nat) : Int) != ((k.length : Nat) : Int)) = false := h; exact Int.ofNat.inj (by simpa using h2)
    rintro ⟨i, hi1, hi2⟩
    cbv
    refine tst_mk (fun h => ?_) (fun h => ?_)
    · have hi : i < l.length := by subst hκ; delta kid at h; have h2 : (i : Int) < (l.length : Int) := of_decide_eq_true h; omega
      have hik : i < k.length := hlk ▸ hi
      cbv
      repeat' (first | refine And.intro ?_ ?_ | (intro _; cbv) | (refine tst_mk (fun h => ?_) (fun h => ?_) <;> cbv) | (refine LookN.mk' (x := [.v (.int .i64 (κ _ (nthA l i).s)), .v (.int .i64 (κ _ (nthA l i).e)), .v (.int .i64 (κ _ (nthA l i).p)), .v (.bool (κ _ (nthA l i).sh)), .v (.int .i64 (κ _ (nthA l i).b)), .v (.int .i64 (κ _ (nthA l i).o))]) (by subst hκ; delta kid at *; exact la_take hi) ?_; cbv) | (refine LookN.mk' (x := [.v (.int .i64 (κ _ (nthA k i).s)), .v (.int .i64 (κ _ (nthA k i).e)), .v (.int .i64 (κ _ (nthA k i).p)), .v (.bool (κ _ (nthA k i).sh)), .v (.int .i64 (κ _ (nthA k i).b)), .v (.int .i64 (κ _ (nthA k i).o))]) (by subst hκ; delta kid at *; exact la_take hik) ?_; cbv))
      all_goals (clear hH; subst hκ; delta kid at *; dsimp only at *)
      all_goals (try (exact ⟨la_ix hi⟩))
      all_goals (try (exact ⟨la_ix hik⟩))
      all_goals (try (exact ⟨rfl⟩))
      · refine ⟨?_⟩
        have h2 : (!eqA (nthA l i) (nthA k i)) = true := h
        show Value.bool false = Value.bool (sameL l k)
        rw [same_no hi (by simpa using h2)]
      · have h2 : (!eqA (nthA l i) (nthA k i)) = false := h
        exact ⟨⟨⟨i + 1, ⟨hi, same_next hi2 (by simpa using h2)⟩⟩, [200000, 200010], (by show l.length - (i + 1) < l.length - i; omega), by decide, ⟨rfl, rfl, rfl, rfl, rfl, rfl, rfl,  congrArg (Value.int .i64) (nat_succ (by omega)), trivial⟩, ⟨rfl, rfl, rfl, rfl⟩, ⟨rfl, rfl, rfl, rfl⟩, trivial⟩⟩
    · cbv
      subst hκ
      delta kid at *
      dsimp only at *
      refine ⟨?_⟩
      show Value.bool true = Value.bool (sameL l k)
      rw [same_yes (congrArg Nat.cast hlk) (fun j hj => hi2 j (by have h2 : ¬ (i : Int) < (l.length : Int) := of_decide_eq_false h; omega))]
  all_goals subst hκ
  all_goals (try delta kid at *)
  all_goals (try dsimp only at *)
  all_goals (try (exact ⟨trivial⟩))
  all_goals (try (exact ⟨by decide⟩))
  all_goals (try (exact ⟨rfl⟩))
  all_goals (try (exact ⟨⟨rfl, rfl, .inl rfl, rfl, rfl, .inl rfl⟩⟩))
  all_goals (try (exact ⟨⟨rfl, rfl⟩⟩))
  all_goals (try (exact ⟨‹_›⟩))
  all_goals (refine ⟨?_⟩)
  all_goals (show Value.bool false = Value.bool (sameL l k))
  all_goals (rw [same_len (by simpa using h)])
def e_equal {κ : Kp} (hκ : κ = kid) : ESpec Tryz.prog := lis2ES b_equal F_equal hκ fun l k hp A c B e w hr hr2 => k_equal l k hp A c B e w hr hr2
theorem b_same : Bodied Tryz.prog 28 := bodied Tryz.func28 rfl (by decide)
def r_same (l k : List Ar) : SV := .c (.v (.bool (sameL l k)))
def F_same : FunL2 := fun κ l k => (κ _ (l.length ≤ 1000000), .c (.v (.bool (κ _ (sameL l k)))))
set_option maxRecDepth 100000 in
set_option maxHeartbeats 4000000 in
theorem k_same (l k : List Ar) (hside : l.length ≤ 1000000) (A : Option Addr) (c : Nat) (B : Option Addr) (e : Nat) (w : World) (hr : (Ent.rd A 6 l.length (encL l)).holds w) (hr2 : (Ent.rd B 6 k.length (encL k)).holds w) :
    Calls Tryz.prog 28 #[.slice A l.length c, .slice B k.length e] w fun x w' => x = .returned (r_same l k).den ∧ Below w.heap.size w w' := by
  obtain ⟨κ, hκ⟩ : ∃ κ : Kp, κ = kid := ⟨_, rfl⟩
  have hH : HSat w (fun _ => False) (heapOf [(nilId, .rd none 1 0 []), (200000, .rd A 6 (κ _ l.length) (κ _ (encL l))), (200010, .rd B 6 (κ _ k.length) (κ _ (encL k)))]) w := by
    subst hκ
    refine HSat.reads fun p hp => ?_
    simp only [List.mem_cons, List.not_mem_nil, or_false] at hp
    rcases hp with rfl | rfl | rfl
    · exact ⟨_, _, _, _, rfl, nil_holds w⟩
    · exact ⟨_, _, _, _, rfl, hr⟩
    · exact ⟨_, _, _, _, rfl, hr2⟩
  refine (callsE (n := 8) FTok [e_equal hκ] mixed [] Tryz.func28 rfl (by kernel_rfl) #[.slice A l.length c, .slice B k.length e] [(0, .c (.sl 200000 A (κ _ l.length) c)), (1, .c (.sl 200010 B (κ _ k.length) e))] _ w rfl [.tmp 4] rfl (by simp) (by subst hκ; simp [SV.den, C.den, kid]) hH (fun v _ => Is (κ _ (r_same l k).den) v) hκ ?_).mono ?_
  rotate_left
  · subst hκ
    rintro x w' ⟨v, H', rfl, ⟨hv⟩, hH'⟩
    exact ⟨by rw [hv]; rfl, hH'.isBelow⟩
  cbv
  repeat' (first | refine And.intro ?_ ?_ | (intro _; cbv) | (refine tst_mk (fun h => ?_) (fun h => ?_) <;> cbv) | (refine LookX.auto hκ ?_; cbv))
  all_goals subst hκ
  all_goals (try delta kid at *)
  all_goals (try dsimp only at *)
  all_goals (try (exact ⟨trivial⟩))
  all_goals (try (exact ⟨by decide⟩))
  all_goals (try (exact ⟨rfl⟩))
  all_goals (try (exact ⟨⟨rfl, rfl, .inl rfl, rfl, rfl, .inl rfl⟩⟩))
  all_goals (try (exact ⟨⟨rfl, rfl⟩⟩))
  all_goals (try (exact ⟨‹_›⟩))
  all_goals (exact ⟨rfl⟩)
def e_same {κ : Kp} (hκ : κ = kid) : ESpec Tryz.prog := lis2ES b_same F_same hκ fun l k hp A c B e w hr hr2 => k_same l k hp A c B e w hr hr2
theorem b_rsame : Bodied Tryz.prog 25 := bodied Tryz.func25 rfl (by decide)
def r_rsame (l k : List Ar) : SV := .c (.v (.bool (sameL l k)))
def F_rsame : FunL2 := fun κ l k => (κ _ (l.length ≤ 1000000), .c (.v (.bool (κ _ (sameL l k)))))
set_option maxRecDepth 100000 in
set_option maxHeartbeats 4000000 in
theorem k_rsame (l k : List Ar) (hside : l.length ≤ 1000000) (A : Option Addr) (c : Nat) (B : Option Addr) (e : Nat) (w : World) (hr : (Ent.rd A 6 l.length (encL l)).holds w) (hr2 : (Ent.rd B 6 k.length (encL k)).holds w) :
    Calls Tryz.prog 25 #[.slice A l.length c, .slice B k.length e] w fun x w' => x = .returned (r_rsame l k).den ∧ Below w.heap.size w w' := by
  obtain ⟨κ, hκ⟩ : ∃ κ : Kp, κ = kid := ⟨_, rfl⟩
  have hH : HSat w (fun _ => False) (heapOf [(nilId, .rd none 1 0 []), (200000, .rd A 6 (κ _ l.length) (κ _ (encL l))), (200010, .rd B 6 (κ _ k.length) (κ _ (encL k)))]) w := by
    subst hκ
    refine HSat.reads fun p hp => ?_
    simp only [List.mem_cons, List.not_mem_nil, or_false] at hp
    rcases hp with rfl | rfl | rfl
    · exact ⟨_, _, _, _, rfl, nil_holds w⟩
    · exact ⟨_, _, _, _, rfl, hr⟩
    · exact ⟨_, _, _, _, rfl, hr2⟩
  refine (callsE (n := 26) FTok [] mixed [(6, [[], [0], [], [], [0, 1, 2, 3], [0, 1, 2, 3, 4], [0, 1, 2, 3], [0, 1, 2, 3], []])] Tryz.func25 rfl (by kernel_rfl) #[.slice A l.length c, .slice B k.length e] [(0, .c (.sl 200000 A (κ _ l.length) c)), (1, .c (.sl 200010 B (κ _ k.length) e))] _ w rfl [.tmp 4] rfl (by simp) (by subst hκ; simp [SV.den, C.den, kid]) hH (fun v _ => Is (κ _ (r_rsame l k).den) v) hκ ?_).mono ?_
  rotate_left
  · subst hκ
    rintro x w' ⟨v, H', rfl, ⟨hv⟩, hH'⟩
    exact ⟨by rw [hv]; rfl, hH'.isBelow⟩
  cbv
  repeat' (first | refine And.intro ?_ ?_ | (intro _; cbv) | (refine tst_mk (fun h => ?_) (fun h => ?_) <;> cbv))
  all_goals (try (refine loopG FTok [] mixed [0, 1] (σ := {i : Nat // i ≤ l.length ∧ ∀ j : Nat, j < i → eqA (nthA l j) (nthA k j) = true}) (fun q => [(5, .c (.v (.int .i64 (κ _ ((q.1 : Nat) : Int)))))]) (fun _ => [(200000, .rd A 6 (κ _ l.length) (κ _ (encL l))), (200010, .rd B 6 (κ _ k.length) (κ _ (encL k)))]) (fun q => l.length - q.1) ⟨0, ⟨Nat.zero_le _, fun j hj => absurd hj (Nat.not_lt_zero j)⟩⟩ [200000, 200010] ?_ (by decide) ?_ hκ ?_))
  rotate_left
  · cbv
    subst hκ
    delta kid
    exact ⟨rfl, trivial⟩
  · cbv
  · have hlk : l.length = k.length := by subst hκ; delta kid at h; have h2 : (((l.length : Nat) : Int) != ((k.length : Nat) : Int)) = false := h; exact Int.ofNat.inj (by simpa using h2)
    rintro ⟨i, hi1, hi2⟩
    cbv
    refine tst_mk (fun h => ?_) (fun h => ?_)
    · have hi : i < l.length := by subst hκ; delta kid at h; have h2 : (i : Int) < (l.length : Int) := of_decide_eq_true h; omega
      have hik : i < k.length := hlk ▸ hi
      cbv
      repeat' (first | refine And.intro ?_ ?_ | (intro _; cbv) | (refine tst_mk (fun h => ?_) (fun h => ?_) <;> cbv) | (refine LookN.mk' (x := [.v (.int .i64 (κ _ (nthA l i).s)), .v (.int .i64 (κ _ (nthA l i).e)), .v (.int .i64 (κ _ (nthA l i).p)), .v (.bool (κ _ (nthA l i).sh)), .v (.int .i64 (κ _ (nthA l i).b)), .v (.int .i64 (κ _ (nthA l i).o))]) (by subst hκ; delta kid at *; exact la_take hi) ?_; cbv) | (refine LookN.mk' (x := [.v (.int .i64 (κ _ (nthA k i).s)), .v (.int .i64 (κ _ (nthA k i).e)), .v (.int .i64 (κ _ (nthA k i).p)), .v (.bool (κ _ (nthA k i).sh)), .v (.int .i64 (κ _ (nthA k i).b)), .v (.int .i64 (κ _ (nthA k i).o))]) (by subst hκ; delta kid at *; exact la_take hik) ?_; cbv))
      all_goals (clear hH; subst hκ; delta kid at *; dsimp only at *)
      all_goals (try (exact ⟨la_ix hi⟩))
      all_goals (try (exact ⟨la_ix hik⟩))
      all_goals (try (exact ⟨rfl⟩))
      · refine ⟨?_⟩
        have h2 : (!eqA (nthA l i) (nthA k i)) = true := h
        show Value.bool false = Value.bool (sameL l k)
        rw [same_no hi (by simpa using h2)]
      · have h2 : (!eqA (nthA l i) (nthA k i)) = false := h
        exact ⟨⟨⟨i + 1, ⟨hi, same_next hi2 (by simpa using h2)⟩⟩, [200000, 200010], (by show l.length - (i + 1) < l.length - i; omega), by decide, ⟨rfl, rfl, rfl, rfl, rfl,  congrArg (Value.int .i64) (nat_succ (by omega)), trivial⟩, ⟨rfl, rfl, rfl, rfl⟩, ⟨rfl, rfl, rfl, rfl⟩, trivial⟩⟩
    · cbv
      subst hκ
      delta kid at *
      dsimp only at *
      refine ⟨?_⟩
      show Value.bool true = Value.bool (sameL l k)
      rw [same_yes (congrArg Nat.cast hlk) (fun j hj => hi2 j (by have h2 : ¬ (i : Int) < (l.length : Int) := of_decide_eq_false h; omega))]
  all_goals subst hκ
  all_goals (try delta kid at *)
  all_goals (try dsimp only at *)
  all_goals (try (exact ⟨trivial⟩))
  all_goals (try (exact ⟨by decide⟩))
  all_goals (try (exact ⟨rfl⟩))
  all_goals (try (exact ⟨⟨rfl, rfl, .inl rfl, rfl, rfl, .inl rfl⟩⟩))
  all_goals (try (exact ⟨⟨rfl, rfl⟩⟩))
  all_goals (try (exact ⟨‹_›⟩))
  all_goals (refine ⟨?_⟩)
  all_goals (show Value.bool false = Value.bool (sameL l k))
  all_goals (rw [same_len (by simpa using h)])
def e_rsame {κ : Kp} (hκ : κ = kid) : ESpec Tryz.prog := lis2ES b_rsame F_rsame hκ fun l k hp A c B e w hr hr2 => k_rsame l k hp A c B e w hr hr2
end Go.Proofs.YtbcicjmepojlnaaGreat.Eng
