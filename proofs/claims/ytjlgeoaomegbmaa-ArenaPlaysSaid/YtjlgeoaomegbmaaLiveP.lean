/- The live handles of an arena: what 'Live' hands back; condition: at most 1000 slots. -/
import Derived.Test.YtjlgeoaomegbmaaArenA
namespace Go.Proofs.Ytjlgeoaomegbmaa.Eng
open Go Go.RowKit
set_option linter.unusedVariables false
set_option linter.unusedSimpArgs false

theorem st_ixN {l : List St} {i : Nat} (h : i < l.length) : 0 < 2 ∧ 0 ≤ ((i : Nat) : Int) ∧ ((i : Nat) : Int) < (l.length : Int) := by omega
theorem st_take {l : List St} {i : Nat} (h : i < l.length) : takeN (encS l) (((i : Nat) : Int).toNat * 2) 2 = some [.v (.int .i64 (gAt l (i + 1))), .v (.bool (vAt l (i + 1)))] := by
  have e : (((i : Int) + 1 - 1).toNat) = i := by omega
  have h2 : l[i]? = some (l.getD i st0) := by rw [List.getD_eq_getElem?_getD, List.getElem?_eq_getElem h]; rfl
  rw [Int.toNat_natCast]
  have := enc_take encSt_len (by decide) l i _ h2
  unfold gAt vAt
  rw [e]
  exact this
theorem has_succ {l : List St} {i : Nat} (h : i < l.length) (hl : l.length ≤ 1000) : hasSl l.length (IntKind.i64.wrap ((i : Int) + 1)) = true ∧ IntKind.i64.wrap ((i : Int) + 1) = (i : Int) + 1 := by
  have e : w64 ((i : Int) + 1) = (i : Int) + 1 := w64_id (by unfold In64; omega)
  unfold w64 at e
  rw [e]
  unfold hasSl
  simp
  omega
structure IsL (r : List Int) (e1 e2 : Option Ent) (v : SV) (o1 o2 : Option Ent) (H' : Heap) : Prop where
  h : ∃ i A2 c2, v = .c (.sl i A2 r.length c2) ∧ o1 = e1 ∧ o2 = e2 ∧ H' i = some (.row A2 c2 2 1 r.length (encI r)) ∧ i ≠ 200000 ∧ i ≠ 200001

theorem b_liveP : Bodied Try.prog 49 := bodied Try.func49 rfl (by decide)
set_option maxRecDepth 100000 in
set_option maxHeartbeats 4000000 in
theorem k_liveP (fi : Int) (l : List St) (s d : Bool) (hl : l.length ≤ 1000) (b : Nat) (A : Option Addr) (c : Nat) (w : World) (hH : HSat w (mutE (EP kid b fi l s d A c)) (heapOf (EP kid b fi l s d A c)) w) :
    Calls Try.prog 49 #[.pointer (some ⟨b, 0, none⟩)] w fun e w' => ∃ v H', e = .returned v.den ∧ IsL (outL l l.length) (some (blkP b fi 200001 A l.length c s d)) (some (.row A c 84 2 l.length (encS l))) v (H' 200000) (H' 200001) H' ∧ HSat w (mutE (EP kid b fi l s d A c)) H' w' := by
  obtain ⟨κ, hκ⟩ : ∃ κ : Kp, κ = kid := ⟨_, rfl⟩
  have hH' : HSat w (mutE (EP kid b fi l s d A c)) (heapOf (EP κ b fi l s d A c)) w := by subst hκ; exact hH
  refine (callsE (n := 27) FTok [e_handleP hκ] mixed [] Try.func49 rfl (by kernel_rfl) #[.pointer (some ⟨b, 0, none⟩)] [(0, .c (.loc 200000 b 0))] _ w rfl [.tmp 2] rfl (by simp) (by simp [SV.den, C.den]) hH'
    (fun v H' => IsL (κ _ (outL l l.length)) (κ _ (some (blkP b fi 200001 A l.length c s d))) (κ _ (some (.row A c 84 2 l.length (encS l)))) v (H' 200000) (H' 200001) H') hκ ?_).mono ?_
  rotate_left
  · subst hκ; intro e w' h; exact h
  cbv
  refine loopG FTok [e_handleP hκ] mixed [0, 9, 10] (σ := Nat × Option Addr × Nat) (fun s => [(3, .c (.sl 300000 s.2.1 (κ _ (outM l s.1).length) s.2.2)), (11, .c (.v (.int .i64 (κ _ ((s.1 : Nat) : Int)))))])
    (fun q => [(200000, blkP b fi 200001 A (κ _ l.length) c s d), (200001, .row A c 84 2 (κ _ l.length) (κ _ (encS l))), (300000, .row q.2.1 q.2.2 2 1 (κ _ (outM l q.1).length) (κ _ (encI (outM l q.1))))])
    (fun q => l.length - q.1) (0, none, 0) [200000, 200001, 999999] ?_ (by decide) ?_ hκ ?_
  · cbv
    subst hκ
    delta kid
    exact ⟨rfl, rfl, trivial⟩
  · cbv
    subst hκ
    delta kid
    have e : outM l 0 = [] := rfl
    dsimp only
    rw [e]
    exact ⟨⟨rfl, rfl⟩, trivial⟩
  rintro ⟨i, A2, c2⟩
  cbv
  refine tst_mk (fun h => ?_) (fun h => ?_)
  · have hi : i < l.length := by subst hκ; delta kid at h; have h2 : (i : Int) < (l.length : Int) := of_decide_eq_true h; omega
    have hl2 := outL_le l i
    have hm : outM l i = outL l i := by unfold outM; rw [Nat.min_eq_left (by omega)]
    have hs := has_succ hi hl
    cbv
    repeat' (first | refine And.intro ?_ ?_ | (intro _; cbv) | (refine tst_mk (fun h => ?_) (fun h => ?_) <;> cbv) | (refine LookX.mk' (x := l) (by subst hκ; rfl) ?_; cbv) | (refine LookN.mk' (x := [.v (.int .i64 (κ _ (gAt l (i + 1)))), .v (.bool (κ _ (vAt l (i + 1))))]) (by subst hκ; delta kid at *; exact st_take hi) ?_; cbv))
    all_goals (try (subst hκ; delta kid at *; dsimp only at *))
    all_goals (try (exact ⟨st_ixN hi⟩))
    all_goals (try (exact ⟨rfl⟩))
    all_goals (try (exact ⟨⟨rfl, hl⟩⟩))
    all_goals (try (exact ⟨⟨rfl, rfl, rfl, rfl⟩⟩))
    all_goals (try (exact ⟨⟨rfl, rfl, rfl, rfl, rfl⟩⟩))
    all_goals (try (exact ⟨hs.1⟩))
    all_goals (try (exact ⟨⟨rfl, rfl, .inl rfl, rfl⟩⟩))
    all_goals (try (exact ⟨by rw [hm]; simp only [maxLen]; omega⟩))
    · rename_i A3 c3 _
      have hv := outM_succ hi
      rw [if_pos h] at hv
      refine ⟨⟨(i + 1, A3, c3), [200000, 200001, 24], (by show l.length - (i + 1) < l.length - i; omega), by decide, ?_, ?_⟩⟩
      · refine ⟨rfl, rfl, rfl, rfl, rfl, rfl, rfl, ?_, rfl, ?_, trivial⟩
        · show Value.slice A3 ((outM l i).length + 1) c3 = Value.slice A3 (outM l (i + 1)).length c3
          rw [hv, List.length_append]
          rfl
        · show Value.int .i64 (IntKind.i64.wrap ((i : Int) + 1)) = Value.int .i64 ((i + 1 : Nat) : Int)
          rw [hs.2]
          rfl
      · refine ⟨⟨rfl, rfl, rfl⟩, ⟨rfl, rfl, rfl, rfl, rfl, rfl⟩, ⟨rfl, rfl, rfl, rfl, ?_, ?_⟩, trivial⟩
        · show (outM l i).length + 1 = (outM l (i + 1)).length
          rw [hv, List.length_append]
          rfl
        · show encI (outM l i) ++ [.v (.int .i64 (handleP l (IntKind.i64.wrap ((i : Int) + 1))))] = encI (outM l (i + 1))
          rw [hv, encI_app, hs.2]
          rfl
    · have hv := outM_succ hi
      rw [if_neg (by rw [h]; simp), List.append_nil] at hv
      refine ⟨⟨(i + 1, A2, c2), [200000, 200001, 300000], (by show l.length - (i + 1) < l.length - i; omega), by decide, ?_, ?_⟩⟩
      · refine ⟨rfl, rfl, rfl, rfl, rfl, rfl, rfl, ?_, rfl, ?_, trivial⟩
        · show Value.slice A2 (outM l i).length c2 = Value.slice A2 (outM l (i + 1)).length c2
          rw [hv]
        · show Value.int .i64 (IntKind.i64.wrap ((i : Int) + 1)) = Value.int .i64 ((i + 1 : Nat) : Int)
          rw [hs.2]
          rfl
      · refine ⟨⟨rfl, rfl, rfl⟩, ⟨rfl, rfl, rfl, rfl, rfl, rfl⟩, ⟨rfl, rfl, rfl, rfl, ?_, ?_⟩, trivial⟩
        · show (outM l i).length = (outM l (i + 1)).length
          rw [hv]
        · show encI (outM l i) = encI (outM l (i + 1))
          rw [hv]
  · have hi : ¬ i < l.length := by subst hκ; delta kid at h; have h2 : ¬ (i : Int) < (l.length : Int) := of_decide_eq_false h; omega
    cbv
    subst hκ
    delta kid at *
    dsimp only at *
    rw [outM_end hi]
    exact ⟨⟨300000, A2, c2, rfl, rfl, rfl, rfl, by decide, by decide⟩⟩

theorem upds1 (H : Heap) {d : Nat} (e : Option Ent) : upds H [(d, e)] d = e := by simp [upds, upd_apply]
def liveT (κ : Kp) : TSpec := fun args H d K => match args with
  | [.c (.loc id b 0)] => match H id with
    | some (.blk b' t [.v (.int .i64 fi), .sl j A n c, .v (.bool s), .v (.bool db)]) => match H j with
      | some (.row A' c' t' z n' xs) => (t = 80 ∧ t' = 84 ∧ z = 2 ∧ id ≠ j ∧ id ≠ d ∧ j ≠ d) ∧ Side (κ _ (b = b' ∧ A = A' ∧ c = c' ∧ n = n')) ∧ LookX encS xs fun l => Side (κ _ (l.length = n ∧ l.length ≤ 1000)) ∧
        ∀ (A2 : Option Addr) (c2 : Nat), K (.c (.sl d A2 (κ _ (outL l l.length).length) c2)) [(d, some (.row A2 c2 2 1 (κ _ (outL l l.length).length) (κ _ (encI (outL l l.length)))))]
      | _ => False
    | _ => False
  | _ => False
theorem liveT_conj (args : List SV) (H : Heap) (d : Nat) : ConjP (liveT kid args H d) (okKey false H d) := by
  unfold liveT
  split
  · split
    · split
      · refine .and_ fun _ => .side fun _ => .look encS_inj fun l _ => .side fun _ => .all2 (fun A2 c2 => .c (.sl d A2 _ c2)) (fun A2 c2 => [(d, some (.row A2 c2 2 1 _ _))]) (by simp [okKey])
      · exact .false_
    · exact .false_
  · exact .false_
def e_liveP {κ : Kp} (hκ : κ = kid) : ESpec Try.prog := ES b_liveP false liveT hκ liveT_conj fun args H0 H d w0 M w hs hsub hH => by
  have hs' := hs
  unfold liveT at hs'
  split at hs'
  case h_2 => exact hs'.elim
  rename_i id b
  split at hs'
  case h_2 => exact hs'.elim
  rename_i b' t fi j A n c s db hid
  split at hs'
  case h_2 => exact hs'.elim
  rename_i A' c' t' z n' xs hj
  obtain ⟨⟨rfl, rfl, rfl, hne, hne1, hne2⟩, ⟨h1⟩, ⟨l, rfl, ⟨h2⟩, h3⟩⟩ := hs'
  obtain ⟨rfl, rfl, rfl, rfl⟩ := h1
  obtain ⟨rfl, h2b⟩ := h2
  have hG : Gives H [id, j] (EP kid b fi l s db A c) := ⟨⟨_, hsub _ _ hid, gives_blk rfl⟩, ⟨_, hsub _ _ hj, gives_refl _⟩, trivial⟩
  have hnd : [id, j].Nodup := by simp [hne]
  refine (k_liveP fi l s db h2b b A c w (hH.enter hnd hG)).mono ?_
  rintro e w' ⟨v, Hc, rfl, ⟨⟨q0, A2, c2, rfl, e1, e2, e3, n1, n2⟩⟩, hHc⟩
  refine ⟨.c (.sl d A2 (outL l l.length).length c2), [(d, some (.row A2 c2 2 1 (outL l l.length).length (encI (outL l l.length))))], _, rfl, fun K hK => ?_, fun _ => rfl, ?_⟩
  · unfold liveT at hK
    simp only [hid, hj] at hK
    obtain ⟨_, _, ⟨l2, hl2, _, h⟩⟩ := hK
    have := encS_inj _ _ hl2
    subst this
    exact h A2 c2
  · refine hH.leave hnd hG hHc _ [(id, 200000), (j, 200001), (d, q0)] ?_ ?_ ?_
    · intro q hq
      simp only [List.mem_cons, List.not_mem_nil, or_false] at hq
      rcases hq with rfl | rfl | rfl
      · exact ⟨_, .blk b 80 [.v (.int .i64 fi), .sl j A l.length c, .v (.bool s), .v (.bool db)], e1, by rw [upds_other _ H id (by simp; exact fun e => hne1 e.symm)]; exact hsub _ _ hid, gives_blk rfl, rfl⟩
      · exact ⟨_, _, e2, by rw [upds_other _ H j (by simp; exact fun e => hne2 e.symm)]; exact hsub _ _ hj, gives_refl _, rfl⟩
      · exact ⟨_, _, e3, upds1 H _, gives_refl _, rfl⟩
    · intro i hi
      have hi1 : id ≠ i := fun e => hi (id, 200000) (by simp) e
      have hi2 : j ≠ i := fun e => hi (j, 200001) (by simp) e
      have hi3 : d ≠ i := fun e => hi (d, q0) (by simp) e
      refine .inr ⟨upds_other _ H i (by simp [hi3]), ?_⟩
      intro k t e hk1 hk2
      match k, hk2 with
      | 0, h => simp at h; exact absurd h hi1
      | 1, h => simp at h; exact absurd h hi2
      | k + 2, h => simp at h
    · simp [n1, n2, Ne.symm n1, Ne.symm n2]
end Go.Proofs.Ytjlgeoaomegbmaa.Eng
