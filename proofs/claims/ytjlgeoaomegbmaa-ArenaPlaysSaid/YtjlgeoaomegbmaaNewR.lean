/- New arenas of the reference; no condition. -/
import Derived.Test.YtjlgeoaomegbmaaNewP
namespace Go.Proofs.Ytjlgeoaomegbmaa.Eng
open Go Go.RowKit
set_option linter.unusedVariables false
set_option linter.unusedSimpArgs false

theorem ConjP.congr {T T' : KT → Prop} {ok : Nat → Prop} (h : ConjP T ok) (he : ∀ K, T' K ↔ T K) : ConjP T' ok := by
  obtain ⟨s, R, h0, h1, h2⟩ := h
  exact ⟨s, R, h0, h1, fun K => (he K).trans (h2 K)⟩
def newFR (f : Int) : Int := maxI (minI f 65536) 0
theorem newFR_eq (f : Int) : newFR f = newF f := by
  unfold newFR newF maxI minI
  repeat' split
  all_goals omega
abbrev rep (i : Nat) : List St := List.replicate i st0
theorem rep_g (i : Nat) : encG (rep i) ++ [.v (.int .i64 0)] = encG (rep (i + 1)) := by
  unfold encG rep
  rw [List.replicate_succ', List.flatMap_append]
  rfl
theorem rep_v (i : Nat) : encV (rep i) ++ [.v (.bool false)] = encV (rep (i + 1)) := by
  unfold encV rep
  rw [List.replicate_succ', List.flatMap_append]
  rfl
theorem newN_step {i : Nat} {n : Int} (h1 : (i : Int) < n) (h2 : (i : Int) < 1000) : i + 1 ≤ newN n := by
  unfold newN maxI minI
  repeat' split
  all_goals omega
theorem newN_end {i : Nat} {n : Int} (hi : i ≤ newN n) (h : ¬ (i : Int) < n ∨ ¬ (i : Int) < 1000) : i = newN n := by
  revert hi
  unfold newN maxI minI
  repeat' split
  all_goals omega
structure IsNR (f : Int) (m : Nat) (v : SV) (H' : Heap) : Prop where
  h : ∃ i b j A c k B e, v = .c (.loc i b 0) ∧ H' i = some (blkR b f j k A m c B m e false false) ∧ H' j = some (.row A c 2 1 m (encG (rep m))) ∧ H' k = some (.row B e 4 1 m (encV (rep m))) ∧ i ≠ j ∧ i ≠ k ∧ j ≠ k
theorem b_newR : Bodied Try.prog 39 := bodied Try.func39 rfl (by decide)
set_option maxRecDepth 100000 in
set_option maxHeartbeats 4000000 in
theorem k_newR (f n : Int) (w : World) :
    Calls Try.prog 39 #[.int .i64 f, .int .i64 n] w fun e w' => ∃ v H', e = .returned v.den ∧ IsNR (newFR f) (newN n) v H' ∧ HSat w (fun _ => False) H' w' := by
  obtain ⟨κ, hκ⟩ : ∃ κ : Kp, κ = kid := ⟨_, rfl⟩
  refine (callsE (n := 40) FTok [] mixed [] Try.func39 rfl (by kernel_rfl) #[.int .i64 f, .int .i64 n] [(0, .c (.v (.int .i64 f))), (1, .c (.v (.int .i64 n)))] H0 w rfl [.tmp 4] rfl (by simp) (by simp [SV.den, C.den]) (HSat.start w)
    (fun v H' => IsNR (κ _ (newFR f)) (κ _ (newN n)) v H') hκ ?_).mono ?_
  rotate_left
  · subst hκ; intro e w' h; exact h
  cbv
  intro b
  cbv
  refine loopG FTok [] mixed [1] (σ := {i : Nat // i ≤ newN n} × Option Addr × Nat × Option Addr × Nat) (fun s => [(5, .c (.loc 300000 b 0)), (6, .c (.v (.int .i64 (κ _ ((s.1.1 : Nat) : Int)))))])
    (fun q => [(300000, .blk b 58 [.v (.int .i64 (κ _ (newFR f))), .sl 300001 q.2.1 (κ _ q.1.1) q.2.2.1, .sl 300002 q.2.2.2.1 (κ _ q.1.1) q.2.2.2.2, .v (.bool false), .v (.bool false)]), (300001, .row q.2.1 q.2.2.1 2 1 (κ _ q.1.1) (κ _ (encG (rep q.1.1)))), (300002, .row q.2.2.2.1 q.2.2.2.2 4 1 (κ _ q.1.1) (κ _ (encV (rep q.1.1))))])
    (fun q => newN n - q.1.1) (⟨0, Nat.zero_le _⟩, none, 0, none, 0) [11, 999998, 999999] ?_ (by decide) ?_ hκ ?_
  · cbv
    subst hκ
    delta kid
    exact ⟨rfl, trivial⟩
  · cbv
    subst hκ
    delta kid
    exact ⟨rfl, ⟨rfl, rfl⟩, ⟨rfl, rfl⟩, trivial⟩
  rintro ⟨⟨i, hi⟩, A1, c1, A2, c2⟩
  cbv
  have ex : ¬ (i : Int) < n ∨ ¬ (i : Int) < 1000 → IsNR (newFR f) (newN n) (.c (.loc 300000 b 0)) (heapOf [(300000, .blk b 58 [.v (.int .i64 (newFR f)), .sl 300001 A1 i c1, .sl 300002 A2 i c2, .v (.bool false), .v (.bool false)]), (300001, .row A1 c1 2 1 i (encG (rep i))), (300002, .row A2 c2 4 1 i (encV (rep i)))]) := by
    intro h
    obtain rfl := newN_end hi h
    exact ⟨⟨300000, b, 300001, A1, c1, 300002, A2, c2, rfl, rfl, rfl, rfl, by decide, by decide, by decide⟩⟩
  refine tst_mk (fun h => ?_) (fun h => ?_)
  · cbv
    have h1 : (i : Int) < n := by subst hκ; delta kid at h; exact of_decide_eq_true h
    refine tst_mk (fun h => ?_) (fun h => ?_)
    · have h2 : (i : Int) < 1000 := by subst hκ; delta kid at h; exact of_decide_eq_true h
      have hs := newN_step h1 h2
      have hn := newN_le n
      cbv
      repeat' (first | refine And.intro ?_ ?_ | (intro _; cbv))
      case' refine_3.refine_1.refine_1.refine_2.refine_2.refine_2.refine_2.refine_2.refine_2 => rename_i _ A3 c3 _ A4 c4
      all_goals (try (subst hκ; delta kid at *; dsimp only at *))
      all_goals (try (exact ⟨rfl⟩))
      all_goals (try (exact ⟨⟨rfl, rfl, rfl, rfl, rfl⟩⟩))
      all_goals (try (exact ⟨⟨rfl, rfl, .inl rfl, rfl⟩⟩))
      all_goals (try (exact ⟨by simp only [maxLen]; omega⟩))
      have e : w64 ((i : Int) + 1) = ((i + 1 : Nat) : Int) := by rw [w64_id (by unfold In64; omega)]; rfl
      refine ⟨⟨(⟨i + 1, hs⟩, A3, c3, A4, c4), [300000, 27, 36], (by show newN n - (i + 1) < newN n - i; omega), by decide, ⟨rfl, rfl, rfl, rfl, rfl, congrArg (Value.int .i64) e, trivial⟩, ⟨rfl, rfl, rfl⟩, ⟨rfl, rfl, rfl, rfl, rfl, rep_g i⟩, ⟨rfl, rfl, rfl, rfl, rfl, rep_v i⟩, trivial⟩⟩
    · cbv
      subst hκ
      delta kid at *
      exact ex (.inr (of_decide_eq_false h))
  · cbv
    subst hκ
    delta kid at *
    exact ex (.inl (of_decide_eq_false h))

def newRT (κ : Kp) : TSpec := fun args H d K => match args with
  | [.c (.v (.int .i64 f)), .c (.v (.int .i64 n))] => ∀ (b : Nat) (A : Option Addr) (c : Nat) (B : Option Addr) (e : Nat), K (.c (.loc d b 0)) [(d, some (.blk b 58 [.v (.int .i64 (κ _ (newFR f))), .sl (d + 100000) A (κ _ (newN n)) c, .sl (d + 200000) B (κ _ (newN n)) e, .v (.bool false), .v (.bool false)])),
      (d + 100000, some (.row A c 2 1 (κ _ (newN n)) (κ _ (encG (rep (newN n)))))), (d + 200000, some (.row B e 4 1 (κ _ (newN n)) (κ _ (encV (rep (newN n))))))]
  | _ => False
theorem newRT_conj (args : List SV) (H : Heap) (d : Nat) : ConjP (newRT kid args H d) (okKey false H d) := by
  unfold newRT
  split
  · rename_i f n
    refine (ConjP.all_ (α := Nat × Option Addr × Nat × Option Addr × Nat) (fun x => .c (.loc d x.1 0)) (fun x => [(d, some (.blk x.1 58 [.v (.int .i64 (kid _ (newFR f))), .sl (d + 100000) x.2.1 (kid _ (newN n)) x.2.2.1, .sl (d + 200000) x.2.2.2.1 (kid _ (newN n)) x.2.2.2.2, .v (.bool false), .v (.bool false)])),
      (d + 100000, some (.row x.2.1 x.2.2.1 2 1 (kid _ (newN n)) (kid _ (encG (rep (newN n)))))), (d + 200000, some (.row x.2.2.2.1 x.2.2.2.2 4 1 (kid _ (newN n)) (kid _ (encV (rep (newN n))))))]) (by simp [okKey])).congr fun K => ?_
    exact ⟨fun h x => h _ _ _ _ _, fun h b A c B e => h (b, A, c, B, e)⟩
  · exact .false_
def e_newR {κ : Kp} (hκ : κ = kid) : ESpec Try.prog := ES b_newR false newRT hκ newRT_conj fun args H0 H d w0 M w hs hsub hH => by
  have hs' := hs
  unfold newRT at hs'
  split at hs'
  case h_2 => exact hs'.elim
  rename_i f n
  refine (k_newR f n w).mono ?_
  rintro e w' ⟨v, Hc, rfl, ⟨⟨i, b, j, A, c, k, B, e0, rfl, e1, e2, e3, n1, n2, n3⟩⟩, hHc⟩
  have hm : (fun _ : Nat => False) = mutE [] := by
    funext g
    apply propext
    refine ⟨fun h => h.elim, ?_⟩
    rintro ⟨k, t, e, hk, _⟩
    simp at hk
  rw [hm] at hHc
  refine ⟨.c (.loc d b 0), _, _, rfl, fun K hK => hK b A c B e0, fun _ => rfl, ?_⟩
  refine hH.leave (ρ := []) (E := []) (by simp) trivial hHc _ [(d, i), (d + 100000, j), (d + 200000, k)] ?_ ?_ (by simp [n1, n2, n3])
  · intro q hq
    simp only [List.mem_cons, List.not_mem_nil, or_false] at hq
    rcases hq with rfl | rfl | rfl
    · exact ⟨_, _, e1, upds3_a H _ _ _ (by omega) (by omega), gives_blk rfl, rfl⟩
    · exact ⟨_, _, e2, upds3_b H _ _ _ (by omega), gives_refl _, rfl⟩
    · exact ⟨_, _, e3, upds3_c H _ _ _, gives_refl _, rfl⟩
  · intro q hq
    have h1 : d ≠ q := fun e => hq (d, i) (by simp) e
    have h2 : d + 100000 ≠ q := fun e => hq (d + 100000, j) (by simp) e
    have h3 : d + 200000 ≠ q := fun e => hq (d + 200000, k) (by simp) e
    exact .inr ⟨upds_other _ H q (by simp [h1, h2, h3]), fun k t e hk => by simp at hk⟩
end Go.Proofs.Ytjlgeoaomegbmaa.Eng
