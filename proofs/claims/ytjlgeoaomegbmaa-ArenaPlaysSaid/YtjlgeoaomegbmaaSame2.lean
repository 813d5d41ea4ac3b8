/- The law's own 'same': of arenas that are alike it says so; condition: few births. -/
import Derived.Test.YtjlgeoaomegbmaaLaw2a
namespace Go.Proofs.Ytjlgeoaomegbmaa.Eng
open Go Go.RowKit
set_option linter.unusedVariables false
set_option linter.unusedSimpArgs false

def ES2 (κ : Kp) (b : Nat) (fi : Int) (l : List St) (s d : Bool) (A : Option Addr) (c b2 : Nat) (f2 : Int) (B : Option Addr) (e : Nat) (B2 : Option Addr) (e2 : Nat) : List (Nat × Ent) :=
  [(200000, blkP b fi 200001 A (κ _ l.length) c s d), (200001, .row A c 84 2 (κ _ l.length) (κ _ (encS l))), (200010, blkR b2 f2 200011 200012 B (κ _ l.length) e B2 (κ _ l.length) e2 s d), (200011, .row B e 2 1 (κ _ l.length) (κ _ (encG l))), (200012, .row B2 e2 4 1 (κ _ l.length) (κ _ (encV l)))]
structure IsS (v : SV) (e o : List (Option Ent)) : Prop where
  h : v.den = .bool true ∧ o = e
theorem st_ixI {l : List Int} {i : Nat} (h : i < l.length) : 0 < 1 ∧ 0 ≤ ((i : Nat) : Int) ∧ ((i : Nat) : Int) < (l.length : Int) := by omega
theorem encI_at {l : List Int} {i : Nat} {x : Int} (h : l[i]? = some x) : (encI l)[((i : Nat) : Int).toNat * 1]? = some (.v (.int .i64 x)) := by
  rw [Int.toNat_natCast]
  exact enc_get (f := fun n : Int => [C.v (.int .i64 n)]) (z := 1) (fun _ => rfl) l i x 0 h (by decide)
theorem b_same2 : Bodied Try.prog 56 := bodied Try.func56 rfl (by decide)
set_option maxRecDepth 100000 in
set_option maxHeartbeats 4000000 in
theorem k_same2 (fi : Int) (l : List St) (s d : Bool) (hf : Fine l 999) (b : Nat) (A : Option Addr) (c b2 : Nat) (f2 : Int) (B : Option Addr) (e : Nat) (B2 : Option Addr) (e2 : Nat) (w : World)
    (hH : HSat w (mutE (ES2 kid b fi l s d A c b2 f2 B e B2 e2)) (heapOf (ES2 kid b fi l s d A c b2 f2 B e B2 e2)) w) :
    Calls Try.prog 56 #[.pointer (some ⟨b, 0, none⟩), .pointer (some ⟨b2, 0, none⟩)] w fun x w' => ∃ v H', x = .returned v.den ∧
      IsS v [some (blkP b fi 200001 A l.length c s d), some (.row A c 84 2 l.length (encS l)), some (blkR b2 f2 200011 200012 B l.length e B2 l.length e2 s d), some (.row B e 2 1 l.length (encG l)), some (.row B2 e2 4 1 l.length (encV l))] [H' 200000, H' 200001, H' 200010, H' 200011, H' 200012] ∧ HSat w (mutE (ES2 kid b fi l s d A c b2 f2 B e B2 e2)) H' w' := by
  have hl := hf.len
  obtain ⟨κ, hκ⟩ : ∃ κ : Kp, κ = kid := ⟨_, rfl⟩
  have hH' : HSat w (mutE (ES2 kid b fi l s d A c b2 f2 B e B2 e2)) (heapOf (ES2 κ b fi l s d A c b2 f2 B e B2 e2)) w := by subst hκ; exact hH
  refine (callsE (n := 85) FTok [e_liveP hκ, e_handleR hκ, e_rightP hκ, e_staleP hκ, e_doubleP hκ, e_slotsP hκ] mixed [(7, [[], [0], [0], [], [], [], [5], [], [], [5, 6, 7, 8], [5, 6, 7, 8, 9], [5, 6, 7, 8, 9], [5, 6, 7, 8], [], [], [], [], [16], [16, 17], [16], [16], [], [], []]), (10, [[], [0], [0], [], [], [], [], [5, 6], [5, 6], [5, 6], [5, 6], [], [], [], [], [], [14, 15], [14, 15], [14, 15], [14, 15], [], [], [], [], [], [23, 24], [23, 24], [23, 24], [23, 24], [23, 24], [], [], []])] Try.func56 rfl (by kernel_rfl) #[.pointer (some ⟨b, 0, none⟩), .pointer (some ⟨b2, 0, none⟩)] [(0, .c (.loc 200000 b 0)), (1, .c (.loc 200010 b2 0))] _ w rfl [.tmp 4] rfl (by simp) (by simp [SV.den, C.den]) hH'
    (fun v H' => IsS v (κ _ [some (blkP b fi 200001 A l.length c s d), some (.row A c 84 2 l.length (encS l)), some (blkR b2 f2 200011 200012 B l.length e B2 l.length e2 s d), some (.row B e 2 1 l.length (encG l)), some (.row B2 e2 4 1 l.length (encV l))]) [H' 200000, H' 200001, H' 200010, H' 200011, H' 200012]) hκ ?_).mono ?_
  rotate_left
  · subst hκ; intro e w' h; exact h
  cbv
  refine And.intro ?_ ?_
  · subst hκ; delta kid; exact ⟨⟨rfl, rfl, rfl, rfl⟩⟩
  refine LookX.mk' (x := l) (by subst hκ; rfl) ?_
  cbv
  refine And.intro ?_ ?_
  · subst hκ; delta kid; exact ⟨⟨rfl, hl⟩⟩
  intro A3 c3
  cbv
  refine loopG FTok [e_liveP hκ, e_handleR hκ, e_rightP hκ, e_staleP hκ, e_doubleP hκ, e_slotsP hκ] mixed [0, 1, 5] (σ := {i : Nat // i ≤ l.length}) (fun q => [(6, .c (.v (.int .i64 (κ _ (((outL l q.1).length : Nat) : Int))))), (7, .c (.v (.int .i64 (κ _ ((q.1 : Nat) : Int)))))])
    (fun _ => ES2 κ b fi l s d A c b2 f2 B e B2 e2 ++ [(9, .row A3 c3 2 1 (κ _ (outL l l.length).length) (κ _ (encI (outL l l.length))))]) (fun q => l.length - q.1) ⟨0, Nat.zero_le _⟩ [200000, 200001, 200010, 200011, 200012, 9] ?_ (by decide) ?_ hκ ?_
  · cbv
    subst hκ
    delta kid
    exact ⟨rfl, rfl, trivial⟩
  · cbv
  rintro ⟨i, hi1⟩
  cbv
  refine tst_mk (fun h => ?_) (fun h => ?_)
  · have hi : i < l.length := by subst hκ; delta kid at h; have h2 : (i : Int) < (l.length : Int) := of_decide_eq_true h; omega
    have hs := hasN_succ hi hl
    have hn := outL_le l i
    have hw : w64 (((outL l i).length : Nat) + 1 : Int) = (((outL l i).length + 1 : Nat) : Int) := by rw [w64_id (by unfold In64; omega)]; rfl
    have hi2 : w64 ((i : Int) + 1) = ((i + 1 : Nat) : Int) := by rw [w64_id (by unfold In64; omega)]; rfl
    have hsu := outL_succ l i
    cbv
    repeat' (first | refine And.intro ?_ ?_ | (intro _; cbv) | (refine tst_mk (fun h => ?_) (fun h => ?_) <;> cbv) | (refine LookX.mk' (x := l) (by subst hκ; rfl) ?_; cbv) | (refine LookR.mk' (x := .v (.bool (κ _ (vAt l (i + 1))))) (by subst hκ; delta kid at *; exact sr_vN hi) ?_; cbv) | (refine LookR.mk' (x := .v (.int .i64 (κ _ (handleP l (i + 1))))) (by subst hκ; delta kid at *; exact encI_at (outL_at hi (by assumption)).2) ?_; cbv))
    all_goals (try (subst hκ; delta kid at *; dsimp only at *))
    all_goals (try (exact ⟨ixN hi⟩))
    all_goals (try (exact ⟨rfl⟩))
    all_goals (try (exact ⟨trivial⟩))
    all_goals (try (exact ⟨hs.1⟩))
    all_goals (try (exact ⟨⟨rfl, hl⟩⟩))
    all_goals (try (exact ⟨⟨rfl, rfl, hl⟩⟩))
    all_goals (try (exact ⟨⟨rfl, rfl, rfl, rfl⟩⟩))
    all_goals (try (exact ⟨⟨rfl, rfl, rfl, rfl, rfl, rfl, rfl⟩⟩))
    all_goals (try (exact ⟨st_ixI (outL_at hi (by assumption)).1⟩))
    · have hv : vAt l (i + 1) = true := by assumption
      have q := (outL_at hi hv).1
      have h2 : ((outL l l.length).length : Int) ≤ ((outL l i).length : Int) := of_decide_eq_true h
      omega
    · have hv : vAt l (i + 1) = true := by assumption
      have q := (right_handle hf (by decide) hi hv).2
      rw [hs.2, q] at h
      simp at h
    · have hv : vAt l (i + 1) = true := by assumption
      have hlen : (outL l (i + 1)).length = (outL l i).length + 1 := by rw [hsu, if_pos hv, List.length_append]; rfl
      exact ⟨⟨⟨i + 1, hi⟩, [200000, 200001, 200010, 200011, 200012, 9], (by show l.length - (i + 1) < l.length - i; omega), by decide,
        ⟨rfl, rfl, rfl, rfl, rfl, rfl, rfl, congrArg (Value.int .i64) (hw.trans (by show _ = (((outL l (i + 1)).length : Nat) : Int); rw [hlen])), rfl, congrArg (Value.int .i64) hi2, trivial⟩,
        ⟨rfl, rfl, rfl⟩, ⟨rfl, rfl, rfl, rfl, rfl, rfl⟩, ⟨rfl, rfl, rfl⟩, ⟨rfl, rfl, rfl, rfl, rfl, rfl⟩, ⟨rfl, rfl, rfl, rfl, rfl, rfl⟩, ⟨rfl, rfl, rfl, rfl, rfl, rfl⟩, trivial⟩⟩
    · have hv : vAt l (i + 1) = true := by assumption
      have q := (right_handle hf (by decide) hi hv).1
      rw [q] at h
      cases h
    · have hlen : (outL l (i + 1)).length = (outL l i).length := by rw [hsu, if_neg (by rw [h]; simp), List.append_nil]
      exact ⟨⟨⟨i + 1, hi⟩, [200000, 200001, 200010, 200011, 200012, 9], (by show l.length - (i + 1) < l.length - i; omega), by decide,
        ⟨rfl, rfl, rfl, rfl, rfl, rfl, rfl, congrArg (Value.int .i64) (by show (((outL l i).length : Nat) : Int) = (((outL l (i + 1)).length : Nat) : Int); rw [hlen]), rfl, congrArg (Value.int .i64) hi2, trivial⟩,
        ⟨rfl, rfl, rfl⟩, ⟨rfl, rfl, rfl, rfl, rfl, rfl⟩, ⟨rfl, rfl, rfl⟩, ⟨rfl, rfl, rfl, rfl, rfl, rfl⟩, ⟨rfl, rfl, rfl, rfl, rfl, rfl⟩, ⟨rfl, rfl, rfl, rfl, rfl, rfl⟩, trivial⟩⟩
  · have hi : i = l.length := by subst hκ; delta kid at h; have h2 : ¬ (i : Int) < (l.length : Int) := of_decide_eq_false h; omega
    subst hi
    cbv
    repeat' (first | refine And.intro ?_ ?_ | (intro _; cbv) | (refine tst_mk (fun h => ?_) (fun h => ?_) <;> cbv) | (refine LookX.mk' (x := l) (by subst hκ; rfl) ?_; cbv))
    all_goals (try (subst hκ; delta kid at *; dsimp only at *))
    all_goals (try (exact ⟨trivial⟩))
    all_goals (try (exact ⟨⟨rfl, hl⟩⟩))
    all_goals (try (exact ⟨⟨rfl, rfl, rfl, rfl⟩⟩))
    all_goals (try (refine ⟨⟨?_, rfl⟩⟩; show Value.bool (_ == _) = Value.bool true; rw [beq_self_eq_true]))
    all_goals (simp at h)

def same2T (κ : Kp) : TSpec := fun args H d K => match args with
  | [.c (.loc id b 0), .c (.loc i2 b2 0)] => match H id, H i2 with
    | some (.blk b' t [.v (.int .i64 fi), .sl j A n c, .v (.bool s), .v (.bool db)]), some (.blk b2' t2 [.v (.int .i64 f2), .sl j2 B n2 e, .sl k2 B2 m2 e2, .v (.bool s2), .v (.bool db2)]) => match H j, H j2, H k2 with
      | some (.row A' c' t' z n' xs), some (.row B' e' t3 z3 n3 ys), some (.row B3 e3 t4 z4 n4 zs) => (t = 80 ∧ t' = 84 ∧ z = 2 ∧ t2 = 58 ∧ t3 = 2 ∧ z3 = 1 ∧ t4 = 4 ∧ z4 = 1 ∧ [id, j, i2, j2, k2].Nodup) ∧
        Side (κ _ (b = b' ∧ A = A' ∧ c = c' ∧ n = n' ∧ b2 = b2' ∧ B = B' ∧ e = e' ∧ n2 = n3 ∧ B2 = B3 ∧ e2 = e3 ∧ m2 = n4)) ∧
        LookX encS xs fun l => Side (κ _ (l.length = n ∧ l.length = n2 ∧ l.length = m2 ∧ ys = encG l ∧ zs = encV l ∧ s2 = s ∧ db2 = db ∧ Fine l 999)) ∧ K (.c (.v (.bool true))) []
      | _, _, _ => False
    | _, _ => False
  | _ => False
theorem same2T_conj (args : List SV) (H : Heap) (d : Nat) : ConjP (same2T kid args H d) (okKey false H d) := by
  unfold same2T
  split
  · split
    · split
      · exact .and_ fun _ => .side fun _ => .look encS_inj fun l _ => .side fun _ => .one _ _ (by simp)
      · exact .false_
    · exact .false_
  · exact .false_
def e_same2 {κ : Kp} (hκ : κ = kid) : ESpec Try.prog := ES b_same2 false same2T hκ same2T_conj fun args H0 H d w0 M w hs hsub hH => by
  have hs' := hs
  unfold same2T at hs'
  split at hs'
  case h_2 => exact hs'.elim
  rename_i id b i2 b2
  split at hs'
  case h_2 => exact hs'.elim
  rename_i b' t fi j A n c s db b2' t2 f2 j2 B n2 e k2 B2 m2 e2 s2 db2 hid hi2
  split at hs'
  case h_2 => exact hs'.elim
  rename_i A' c' t' z n' xs B' e' t3 z3 n3 ys B3 e3 t4 z4 n4 zs hj hj2 hk2
  obtain ⟨⟨rfl, rfl, rfl, rfl, rfl, rfl, rfl, rfl, hnd⟩, ⟨h1⟩, ⟨l, rfl, ⟨h2⟩, h3⟩⟩ := hs'
  obtain ⟨rfl, rfl, rfl, rfl, rfl, rfl, rfl, rfl, rfl, rfl, rfl⟩ := h1
  obtain ⟨rfl, h2a, h2b, rfl, rfl, rfl, rfl, hf⟩ := h2
  subst h2a h2b
  have hG : Gives H [id, j, i2, j2, k2] (ES2 kid b fi l s2 db2 A c b2 f2 B e B2 e2) := ⟨⟨_, hsub _ _ hid, gives_blk rfl⟩, ⟨_, hsub _ _ hj, gives_refl _⟩, ⟨_, hsub _ _ hi2, gives_blk rfl⟩, ⟨_, hsub _ _ hj2, gives_refl _⟩, ⟨_, hsub _ _ hk2, gives_refl _⟩, trivial⟩
  refine (k_same2 fi l s2 db2 hf b A c b2 f2 B e B2 e2 w (hH.enter hnd hG)).mono ?_
  rintro x w' ⟨v, Hc, rfl, ⟨⟨hv, hE⟩⟩, hHc⟩
  injection hE with e1 hE
  injection hE with e2' hE
  injection hE with e3' hE
  injection hE with e4 hE
  injection hE with e5 hE
  refine ⟨.c (.v (.bool true)), [], _, rfl, fun K hK => ?_, fun _ => hv, ?_⟩
  · unfold same2T at hK
    simp only [hid, hi2, hj, hj2, hk2] at hK
    obtain ⟨_, _, ⟨l2, hl2, _, h⟩⟩ := hK
    exact h
  · refine hH.leave hnd hG hHc _ [(id, 200000), (j, 200001), (i2, 200010), (j2, 200011), (k2, 200012)] ?_ ?_ (by simp)
    · intro q hq
      simp only [List.mem_cons, List.not_mem_nil, or_false] at hq
      rcases hq with rfl | rfl | rfl | rfl | rfl
      · exact ⟨_, _, e1, hsub _ _ hid, gives_blk rfl, rfl⟩
      · exact ⟨_, _, e2', hsub _ _ hj, gives_refl _, rfl⟩
      · exact ⟨_, _, e3', hsub _ _ hi2, gives_blk rfl, rfl⟩
      · exact ⟨_, _, e4, hsub _ _ hj2, gives_refl _, rfl⟩
      · exact ⟨_, _, e5, hsub _ _ hk2, gives_refl _, rfl⟩
    · intro q hq
      have n1 : id ≠ q := fun e => hq (id, 200000) (by simp) e
      have n2 : j ≠ q := fun e => hq (j, 200001) (by simp) e
      have n3 : i2 ≠ q := fun e => hq (i2, 200010) (by simp) e
      have n4 : j2 ≠ q := fun e => hq (j2, 200011) (by simp) e
      have n5 : k2 ≠ q := fun e => hq (k2, 200012) (by simp) e
      refine .inr ⟨rfl, ?_⟩
      intro k t e hk1 hk2
      match k, hk2 with
      | 0, h => simp at h; exact absurd h n1
      | 1, h => simp at h; exact absurd h n2
      | 2, h => simp at h; exact absurd h n3
      | 3, h => simp at h; exact absurd h n4
      | 4, h => simp at h; exact absurd h n5
      | k + 5, h => simp at h
end Go.Proofs.Ytjlgeoaomegbmaa.Eng
