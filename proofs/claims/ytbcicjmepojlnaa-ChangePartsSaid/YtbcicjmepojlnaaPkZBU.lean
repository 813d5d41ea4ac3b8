/- Texts of this work, laid together: symbolic execution over the model, contracts of the program's functions, what they come to; conditions: as each says. -/
import Derived.Test.YtbcicjmepojlnaaPkZBA
import Derived.Test.YtbcicjmepojlnaaPkZBS
import Derived.Test.YtbcicjmepojlnaaPkZBT
/- Contracts of functions (printed by genx.py of this work): what each hands back; condition: as its 'hside' says. -/
namespace Go.Proofs.Ytbcicjmepojlnaa.Eng
open Go Go.RowKit
set_option linter.unusedVariables false
set_option linter.unusedSimpArgs false
theorem b_cstart : Bodied Try.prog 141 := bodied Try.func141 rfl (by decide)
def F_cstart : FunX := fun κ avs => match avs with
  | [] => some (κ _ (True), (.val (.agg [.sl nilId none 0 0, .v (.int .i64 65536)])))
  | _ => none
set_option maxRecDepth 100000 in
set_option maxHeartbeats 4000000 in
theorem k_cstart (hside : True) (w : World) :
    Calls Try.prog 141 #[] w fun e w' => ∃ v H', e = .returned v.den ∧ IsX (.val (.agg [.sl nilId none 0 0, .v (.int .i64 65536)])) v H' ∧ HSat w (fun _ => False) H' w' := by
  obtain ⟨κ, hκ⟩ : ∃ κ : Kp, κ = kid := ⟨_, rfl⟩
  have hH : HSat w (fun _ => False) (heapOf [(nilId, .rd none 1 0 [])]) w := by
    subst hκ
    refine HSat.reads fun p hp => ?_
    simp only [List.mem_cons, List.not_mem_nil, or_false] at hp
    rcases hp with rfl
    · exact ⟨_, _, _, _, rfl, nil_holds w⟩
  refine (callsP (n := 2) FTok [] mixed [] Try.func141 rfl (by kernel_rfl) #[] [] _ w rfl [.cell 0 88] rfl (by simp) (by subst hκ; simp [SV.den, C.den, kid]) hH (fun v H' => IsX (.val (.agg [.sl nilId none 0 0, .v (.int .i64 65536)])) v H') hκ ?_).mono ?_
  rotate_left
  · subst hκ; intro e w' h; exact h
  intro P' hP'
  cbv
  repeat' (first | refine And.intro ?_ ?_ | (intro _; cbv) | (refine tst_mk (fun h => ?_) (fun h => ?_) <;> cbv) | (refine LookX.nil ?_; cbv) | (refine LookX.auto hκ ?_; cbv))
  all_goals (exact IsX.val_ rfl)
def e_cstart {κ : Kp} (hκ : κ = kid) : ESpec Try.prog := fnES [] b_cstart F_cstart hκ fun avs p r hF hp => by
  unfold F_cstart at hF
  split at hF
  case h_2 => cases hF
  simp only [kid, Option.some.injEq, Prod.mk.injEq] at hF
  obtain ⟨rfl, rfl⟩ := hF
  refine ⟨trivial, fun vs w hR => ?_⟩
  have hR' : vs = [] := hR
  subst hR'
  exact k_cstart hp w
theorem b_csame : Bodied Try.prog 92 := bodied Try.func92 rfl (by decide)
def F_csame : FunX2 := fun κ avs => match avs with
  | [.spv l xl lb, .spv k xk kb] => some (κ _ (l.length ≤ 300000 ∧ k.length ≤ 300000), (.val (.c (.v (.bool (κ _ ((lb == kb) && sameL l k)))))))
  | _ => none
set_option maxRecDepth 100000 in
set_option maxHeartbeats 4000000 in
theorem k_csame (l : List Ar) (lb : Int) (k : List Ar) (kb : Int) (Al : Option Addr) (cl : Nat) (Ak : Option Addr) (ck : Nat) (hside : l.length ≤ 300000 ∧ k.length ≤ 300000) (w : World) (hl : (Ent.rd Al 6 l.length (encL l)).holds w) (hk : (Ent.rd Ak 6 k.length (encL k)).holds w) :
    Calls Try.prog 92 #[(SV.agg [.sl 200000 Al l.length cl, .v (.int .i64 lb)]).den, (SV.agg [.sl 200010 Ak k.length ck, .v (.int .i64 kb)]).den] w fun e w' => ∃ v H', e = .returned v.den ∧ IsX (.val (.c (.v (.bool ((lb == kb) && sameL l k))))) v H' ∧ HSat w (fun _ => False) H' w' := by
  obtain ⟨κ, hκ⟩ : ∃ κ : Kp, κ = kid := ⟨_, rfl⟩
  have hH : HSat w (fun _ => False) (heapOf [(nilId, .rd none 1 0 []), (200000, .rd Al 6 (κ _ l.length) (κ _ (encL l))), (200010, .rd Ak 6 (κ _ k.length) (κ _ (encL k)))]) w := by
    subst hκ
    refine HSat.reads fun p hp => ?_
    simp only [List.mem_cons, List.not_mem_nil, or_false] at hp
    rcases hp with rfl | rfl | rfl
    · exact ⟨_, _, _, _, rfl, nil_holds w⟩
    · exact ⟨_, _, _, _, rfl, hl⟩
    · exact ⟨_, _, _, _, rfl, hk⟩
  refine (callsP (n := 17) FTok [e_same hκ] mixed [] Try.func92 rfl (by kernel_rfl) #[(SV.agg [.sl 200000 Al l.length cl, .v (.int .i64 lb)]).den, (SV.agg [.sl 200010 Ak k.length ck, .v (.int .i64 kb)]).den] [(0, .agg [.sl 200000 Al (κ _ l.length) cl, .v (.int .i64 lb)]), (1, .agg [.sl 200010 Ak (κ _ k.length) ck, .v (.int .i64 kb)])] _ w rfl [.tmp 4] rfl (by simp) (by subst hκ; simp [SV.den, C.den, kid]) hH (fun v H' => IsX (.val (.c (.v (.bool (κ _ ((lb == kb) && sameL l k)))))) v H') hκ ?_).mono ?_
  rotate_left
  · subst hκ; intro e w' h; exact h
  intro P' hP'
  cbv
  repeat' (first | refine And.intro ?_ ?_ | (intro _; cbv) | (refine tst_mk (fun h => ?_) (fun h => ?_) <;> cbv) | (refine LookX.nil ?_; cbv) | (refine LookX.auto hκ ?_; cbv))
  all_goals (try (show Side _; refine ⟨?_⟩; subst hκ; delta kid at *; first | exact rfl | exact trivial | exact ⟨rfl, rfl, .inl rfl⟩ | ((try dsimp only at *); (try simp only [setTo_len, noS_len, List.length_append, List.length_cons, List.length_nil, List.length_map, and_self, true_or, or_true, eq_self, true_and, and_true, Nat.zero_add, Nat.add_zero]); (first | done | omega); done)))
  all_goals (clear hH; subst hκ; delta kid at *; (try dsimp only at *))
  all_goals (try (exact ⟨trivial⟩))
  all_goals (try (exact ⟨by decide⟩))
  all_goals (show IsX _ _ _; refine IsX.val_ ?_; simp only [SV.den, SV.den0, C.den, List.map_cons, List.map_nil, spR, GT.gt, GE.ge]; (try simp only [*, Bool.or_true, Bool.true_or, Bool.or_false, Bool.false_or, Bool.and_true, Bool.true_and, Bool.and_false, Bool.false_and, Bool.not_true, Bool.not_false, if_true, if_false, Bool.false_eq_true]); (first | done | rfl | (exfalso; simp_all; done) | skip))
def e_csame {κ : Kp} (hκ : κ = kid) : ESpec Try.prog := fn2ES [.sp, .sp] b_csame F_csame hκ fun avs p r hF hp => by
  unfold F_csame at hF
  split at hF
  case h_2 => cases hF
  rename_i l xl lb k xk kb
  simp only [kid, Option.some.injEq, Prod.mk.injEq] at hF
  obtain ⟨rfl, rfl⟩ := hF
  refine ⟨trivial, fun vs w hR => ?_⟩
  obtain ⟨il, Al, cl, vs0, rfl, rfl, hl, hR⟩ := hR
  obtain ⟨ik, Ak, ck, vs1, rfl, rfl, hk, hR⟩ := hR
  have hR' : vs1 = [] := hR
  subst hR'
  exact k_csame l lb k kb Al cl Ak ck hp w hl hk
end Go.Proofs.Ytbcicjmepojlnaa.Eng
/- change.Play: calls one behind the other (printed by play.py of this work); condition: at most 1000 calls, of numbers that are such. -/
namespace Go.Proofs.Ytbcicjmepojlnaa.Eng
open Go Go.RowKit
set_option linter.unusedSimpArgs false
set_option linter.unusedVariables false
theorem fit_sp {A : Option Addr} {c : Nat} {x x' : List Ar} {b b' : Int} (h : x' = x) (h2 : b' = b) : [Value.slice A x.length c, Value.int .i64 b] = [Value.slice A x'.length c, Value.int .i64 b'] := by subst h h2; rfl
structure IsPlay (l : List Cl) (v : SV) (H' : Heap) : Prop where
  h : ∃ i A1 c1 j A2 c2, v = .tup [.agg [.sl i A1 (stL l).length c1, .v (.int .i64 (stB l))], .c (.sl j A2 (stA l).length c2)] ∧ H' i = some (.row A1 c1 53 6 (stL l).length (encL (stL l))) ∧ H' j = some (.row A2 c2 31 6 (stA l).length (encAs (stA l))) ∧ i ≠ j
theorem b_play : Bodied Try.prog 90 := bodied Try.func90 rfl (by decide)
set_option maxRecDepth 100000 in
set_option maxHeartbeats 8000000 in
theorem k_play (l : List Cl) (hn : l.length ≤ 1000) (hc : okC l) (A : Option Addr) (c : Nat) (w : World) (hr : (Ent.rd A 9 l.length (encCs l)).holds w) :
    Calls Try.prog 90 #[.slice A l.length c] w fun e w' => ∃ v H', e = .returned v.den ∧ IsPlay l v H' ∧ HSat w (fun _ => False) H' w' := by
  obtain ⟨κ, hκ⟩ : ∃ κ : Kp, κ = kid := ⟨_, rfl⟩
  have hH : HSat w (fun _ => False) (heapOf [(nilId, .rd none 1 0 []), (200000, .rd A 9 (κ _ l.length) (κ _ (encCs l)))]) w := by
    subst hκ
    refine HSat.reads fun p hp => ?_
    simp only [List.mem_cons, List.not_mem_nil, or_false] at hp
    rcases hp with rfl | rfl
    · exact ⟨_, _, _, _, rfl, nil_holds w⟩
    · exact ⟨_, _, _, _, rfl, hr⟩
  refine (callsP (n := 31) FTok [e_cstart hκ, e_cdo hκ] mixed [(7, [[], [0], [0, 1], [0, 1], [0], [], []])] Try.func90 rfl (by kernel_rfl) #[.slice A l.length c] [(0, .c (.sl 200000 A (κ _ l.length) c))] _ w rfl [.cell 2 88, .tmp 3] rfl (by simp) (by subst hκ; simp [SV.den, C.den, kid]) hH (fun v H' => IsPlay (κ _ l) v H') hκ ?_).mono ?_
  rotate_left
  · subst hκ; intro e w' h; exact h
  intro P' hP'
  cbv
  repeat' (first | refine And.intro ?_ ?_ | (intro _; cbv) | (refine tst_mk (fun h => ?_) (fun h => ?_) <;> cbv) | (refine LookX.nil ?_; cbv) | (refine LookX.auto hκ ?_; cbv))
  all_goals (try (show Side _; exact ⟨by subst hκ; delta kid; decide⟩))
  all_goals (try (show Side _; exact ⟨by subst hκ; exact trivial⟩))
  rename_i b2 b4
  refine loopP hP' FTok [e_cstart hκ, e_cdo hκ] mixed [2, 4, 11, 12] (σ := Nat × Option Addr × Nat × Option Addr × Nat) (fun q => [(5, .c (.sl 300001 q.2.2.2.1 (κ _ (stA (l.take q.1)).length) q.2.2.2.2)), (13, .c (.v (.int .i64 (κ _ ((q.1 : Nat) : Int)))))])
    (fun q => [(200000, .rd A 9 (κ _ l.length) (κ _ (encCs l))), (2, .blk b2 88 [.sl nilId none 0 0, .v (.int .i64 0)]), (4, .blk b4 88 [.sl 300000 q.2.1 (κ _ (stL (l.take q.1)).length) q.2.2.1, .v (.int .i64 (κ _ (stB (l.take q.1))))]), (300000, .row q.2.1 q.2.2.1 53 6 (κ _ (stL (l.take q.1)).length) (κ _ (encL (stL (l.take q.1))))), (300001, .row q.2.2.2.1 q.2.2.2.2 31 6 (κ _ (stA (l.take q.1)).length) (κ _ (encAs (stA (l.take q.1)))))])
    (fun q => l.length - q.1) (0, none, 0, none, 0) [200000, 2, 4, 999999, 999998] ?_ (by decide) ?_ hκ ?_
  · cbv
    all_goals (subst hκ; delta kid; repeat' (first | exact rfl | exact trivial | refine And.intro ?_ ?_))
  · cbv
    all_goals (subst hκ; delta kid; repeat' (first | exact rfl | exact trivial | refine And.intro ?_ ?_))
  rintro ⟨i, A1, c1, A2, c2⟩
  cbv
  refine tst_mk (fun h => ?_) (fun h => ?_)
  · have hx : i < l.length := by subst hκ; delta kid at h; have h2 : (i : Int) < (l.length : Int) := of_decide_eq_true h; omega
    cbv
    repeat' (first | refine And.intro ?_ ?_ | (intro _; cbv) | (refine tst_mk (fun h => ?_) (fun h => ?_) <;> cbv) | (refine LookX.nil ?_; cbv) | (refine LookX.auto hκ ?_; cbv) | (refine LookN.mk' (x := [.v (.int .i64 (κ _ (nthCl l i).k)), .v (.int .i64 (κ _ (nthCl l i).a)), .v (.int .i64 (κ _ (nthCl l i).n)), .v (.int .i64 (κ _ (nthCl l i).w)), .v (.int .i64 (κ _ (nthCl l i).to)), .v (.int .i64 (κ _ (nthCl l i).p)), .v (.int .i64 (κ _ (nthCl l i).f)), .v (.int .i64 (κ _ (nthCl l i).b)), .v (.int .i64 (κ _ (nthCl l i).o))]) (by subst hκ; delta kid at *; exact cl_take hx) ?_; cbv))
    all_goals (try (show Side _; refine ⟨?_⟩; subst hκ; delta kid at *; first | exact rfl | exact trivial | exact ⟨rfl, rfl, .inl rfl⟩ | exact ⟨rfl, rfl, .inl rfl, rfl⟩ | exact ⟨rfl, rfl, .inl rfl⟩ | exact cl_ix hx | ((try dsimp only at *); have z1 := st_len (okC_take hc i); have z2 := stA_tle hx; (try simp only [maxLen]); (try simp only [setTo_len, noS_len, List.length_append, List.length_cons, List.length_nil, List.length_map, and_self, true_or, or_true, eq_self, true_and, and_true, Nat.zero_add, Nat.add_zero]); (first | done | omega); done)))
    all_goals (clear hH; subst hκ; delta kid at *; (try dsimp only at *))
    all_goals (rename_i A3 c3 _ _ _ A4 c4)
    all_goals (refine ⟨⟨(i + 1, A3, c3, A4, c4), [200000, 2, 4, 20, 27], (by show l.length - (i + 1) < l.length - i; omega), by decide, ?_, ?_⟩⟩)
    all_goals repeat' (first | exact rfl | exact trivial | refine And.intro ?_ ?_ | exact congrArg (Value.int .i64) (nat_succ (by omega)) | exact fit_sp (stL_next hx) (stB_next hx) | exact congrArg (fun n => Value.slice A4 n c4) (stA_tlen hx) | exact stA_tlen hx | exact stA_enc hx | exact congrArg List.length (stL_next hx).symm | exact congrArg encL (stL_next hx).symm)
  · have hx : ¬ i < l.length := by subst hκ; delta kid at h; have h2 : ¬ (i : Int) < (l.length : Int) := of_decide_eq_false h; omega
    cbv
    (clear hH; subst hκ; delta kid at *; (try dsimp only at *))
    have e : l.take i = l := List.take_of_length_le (by omega)
    rw [e]
    exact ⟨⟨300000, A1, c1, 300001, A2, c2, rfl, rfl, rfl, by decide⟩⟩
def playT (κ : Kp) : TSpec := fun args H d K => match args with
  | [.c (.sl id A n c)] => match rowOf (H id) with
    | some (A', z, n', xs) => Side (κ _ (A = A' ∧ z = 9 ∧ n = n')) ∧ LookX encCs xs fun l => Side (κ _ (l.length = n ∧ l.length ≤ 1000 ∧ okC l)) ∧
      ∀ (A1 : Option Addr) (c1 : Nat) (A2 : Option Addr) (c2 : Nat), K (.tup [.agg [.sl d A1 (κ _ (stL l).length) c1, .v (.int .i64 (κ _ (stB l)))], .c (.sl (d + 100000) A2 (κ _ (stA l).length) c2)])
        [(d, some (.row A1 c1 53 6 (κ _ (stL l).length) (κ _ (encL (stL l))))), (d + 100000, some (.row A2 c2 31 6 (κ _ (stA l).length) (κ _ (encAs (stA l)))))]
    | none => False
  | _ => False
theorem playT_conj (args : List SV) (H : Heap) (d : Nat) : ConjP (playT kid args H d) (okKey false H d) := by
  unfold playT
  split
  · split
    · refine .side fun _ => .look encCs_inj fun l _ => .side fun _ => ?_
      exact (ConjP.all_ (α := Option Addr × Nat × Option Addr × Nat) (fun x => .tup [.agg [.sl d x.1 _ x.2.1, .v (.int .i64 _)], .c (.sl (d + 100000) x.2.2.1 _ x.2.2.2)]) (fun x => [(d, some (.row x.1 x.2.1 53 6 _ _)), (d + 100000, some (.row x.2.2.1 x.2.2.2 31 6 _ _))]) (by simp [okKey])).turn fun K => ⟨fun h x => h _ _ _ _, fun h A c B e => h (A, c, B, e)⟩
    · exact .false_
  · exact .false_
def e_play {κ : Kp} (hκ : κ = kid) : ESpec Try.prog := ES b_play false playT hκ playT_conj fun args H0 H d w0 M w hs hsub hH => by
  have hs' := hs
  unfold playT at hs'
  split at hs'
  case h_2 => exact hs'.elim
  rename_i id A n c
  split at hs'
  case h_2 => exact hs'.elim
  rename_i A' z n' xs hrow
  obtain ⟨⟨h1⟩, ⟨l, hx, ⟨h2⟩, _⟩⟩ := hs'
  obtain ⟨rfl, rfl, rfl⟩ := h1
  obtain ⟨hn, hb, hc⟩ : l.length = _ ∧ l.length ≤ 1000 ∧ okC l := h2
  subst hn hx
  have hrd : (Ent.rd A 9 l.length (encCs l)).holds w := by
    unfold rowOf at hrow
    split at hrow
    · rename_i he
      injection hrow with h
      injection h with q1 h
      injection h with q2 h
      injection h with q3 q4
      subst q1 q2
      rw [← q3, ← q4]
      exact (hH.drop hsub).holds _ _ he
    · rename_i he
      injection hrow with h
      injection h with q1 h
      injection h with q2 h
      injection h with q3 q4
      subst q1 q2
      rw [← q3, ← q4]
      exact gives_row_rd.holds w ((hH.drop hsub).holds _ _ he)
    · cases hrow
  have key : ∀ K : KT, playT kid [.c (.sl id A l.length c)] H0 d K → ∀ A1 c1 A2 c2, K (.tup [.agg [.sl d A1 (stL l).length c1, .v (.int .i64 (stB l))], .c (.sl (d + 100000) A2 (stA l).length c2)]) [(d, some (.row A1 c1 53 6 (stL l).length (encL (stL l)))), (d + 100000, some (.row A2 c2 31 6 (stA l).length (encAs (stA l))))] := by
    intro K hK
    unfold playT at hK
    simp only [hrow] at hK
    obtain ⟨_, ⟨l2, hl2, _, h⟩⟩ := hK
    have := encCs_inj _ _ hl2
    subst this
    exact h
  refine (k_play l hb hc A c w hrd).mono ?_
  rintro e w' ⟨v, H', rfl, ⟨⟨i, A1, c1, j, A2, c2, rfl, e1, e2, hne⟩⟩, hH'⟩
  refine ⟨_, _, _, rfl, fun K hK => key K hK A1 c1 A2 c2, fun _ => rfl, ?_⟩
  rw [mutE_nil] at hH'
  refine hH.leave (ρ := []) (E := []) (by simp) trivial hH' _ [(d, i), (d + 100000, j)] ?_ ?_ (by simp [hne])
  · intro q hq
    simp only [List.mem_cons, List.not_mem_nil, or_false] at hq
    rcases hq with rfl | rfl
    · exact ⟨_, _, e1, by simp [upds, upd_apply], gives_refl _, rfl⟩
    · exact ⟨_, _, e2, by simp [upds, upd_apply], gives_refl _, rfl⟩
  · intro q hq
    have h1 : d ≠ q := fun e => hq (d, i) (by simp) e
    have h2 : d + 100000 ≠ q := fun e => hq (d + 100000, j) (by simp) e
    exact .inr ⟨upds_other _ H q (by simp [h1, h2]), fun k t e hk => by simp at hk⟩
end Go.Proofs.Ytbcicjmepojlnaa.Eng
/- Contracts of functions (printed by genx.py of this work): what each hands back; condition: as its 'hside' says. -/
namespace Go.Proofs.Ytbcicjmepojlnaa.Eng
open Go Go.RowKit
set_option linter.unusedVariables false
set_option linter.unusedSimpArgs false
theorem b_awake14 : Bodied Try.prog 89 := bodied Try.func89 rfl (by decide)
def F_awake14 : FunX := fun κ avs => match avs with
  | [] => some (κ _ (True), (.val (.c (.v (.bool true)))))
  | _ => none
set_option maxRecDepth 100000 in
set_option maxHeartbeats 4000000 in
theorem k_awake14 (hside : True) (w : World) :
    Calls Try.prog 89 #[] w fun e w' => ∃ v H', e = .returned v.den ∧ IsX (.val (.c (.v (.bool true)))) v H' ∧ HSat w (fun _ => False) H' w' := by
  obtain ⟨κ, hκ⟩ : ∃ κ : Kp, κ = kid := ⟨_, rfl⟩
  have hH : HSat w (fun _ => False) (heapOf [(nilId, .rd none 1 0 [])]) w := by
    subst hκ
    refine HSat.reads fun p hp => ?_
    simp only [List.mem_cons, List.not_mem_nil, or_false] at hp
    rcases hp with rfl
    · exact ⟨_, _, _, _, rfl, nil_holds w⟩
  refine (callsP (n := 30) FTok [e_play hκ] mixed [] Try.func89 rfl (by kernel_rfl) #[] [] _ w rfl [.tmp 0] rfl (by simp) (by subst hκ; simp [SV.den, C.den, kid]) hH (fun v H' => IsX (.val (.c (.v (.bool true)))) v H') hκ ?_).mono ?_
  rotate_left
  · subst hκ; intro e w' h; exact h
  intro P' hP'
  cbv
  repeat' (first | refine And.intro ?_ ?_ | (intro _; cbv) | (refine tst_mk (fun h => ?_) (fun h => ?_) <;> cbv) | (refine LookX.nil ?_; cbv) | (refine LookX.auto hκ ?_; cbv) | (refine LookX.mk' (x := [(⟨0, 0, 1, 0, 0, 1, 0, 0, 0⟩ : Cl)]) (by subst hκ; rfl) ?_; cbv) | (refine LookR.mk' (x := .v (.int .i64 2093056)) (by subst hκ; delta kid; exact aw_v) ?_; cbv))
  all_goals (subst hκ; delta kid at *)
  all_goals (try (show Side _; exact ⟨⟨rfl, rfl, rfl⟩⟩))
  all_goals (try (show Side _; exact ⟨⟨rfl, by decide, aw_ok⟩⟩))
  all_goals (try (show Side _; refine ⟨?_⟩; decide +kernel))
  all_goals (try (show IsX _ _ _; refine IsX.bool_ ?_; decide +kernel))
  all_goals (first | exact absurd h (by decide +kernel) | trace_state)
def e_awake14 {κ : Kp} (hκ : κ = kid) : ESpec Try.prog := fnES [] b_awake14 F_awake14 hκ fun avs p r hF hp => by
  unfold F_awake14 at hF
  split at hF
  case h_2 => cases hF
  simp only [kid, Option.some.injEq, Prod.mk.injEq] at hF
  obtain ⟨rfl, rfl⟩ := hF
  refine ⟨trivial, fun vs w hR => ?_⟩
  have hR' : vs = [] := hR
  subst hR'
  exact k_awake14 hp w
set_option maxRecDepth 100000 in
set_option maxHeartbeats 4000000 in
theorem k_changeFaults (l : List Cl) (c1 : Int) (c2 : Int) (c3 : Int) (c4 : Int) (c5 : Int) (c6 : Int) (c7 : Int) (c8 : Int) (c9 : Int) (Al : Option Addr) (cl : Nat) (hside : okC l) (w : World) (hl : (Ent.rd Al 9 l.length (encCs l)).holds w) :
    Calls Try.prog 41 #[.slice Al l.length cl, (SV.agg [.v (.int .i64 c1), .v (.int .i64 c2), .v (.int .i64 c3), .v (.int .i64 c4), .v (.int .i64 c5), .v (.int .i64 c6), .v (.int .i64 c7), .v (.int .i64 c8), .v (.int .i64 c9)]).den] w fun e w' => ∃ v H', e = .returned v.den ∧ IsX (.val (.c (.v (.bool true)))) v H' ∧ HSat w (fun _ => False) H' w' := by
  obtain ⟨κ, hκ⟩ : ∃ κ : Kp, κ = kid := ⟨_, rfl⟩
  have hH : HSat w (fun _ => False) (heapOf [(nilId, .rd none 1 0 []), (200000, .rd Al 9 (κ _ l.length) (κ _ (encCs l)))]) w := by
    subst hκ
    refine HSat.reads fun p hp => ?_
    simp only [List.mem_cons, List.not_mem_nil, or_false] at hp
    rcases hp with rfl | rfl
    · exact ⟨_, _, _, _, rfl, nil_holds w⟩
    · exact ⟨_, _, _, _, rfl, hl⟩
  refine (callsP (n := 50) FTok [e_awake14 hκ, e_play hκ, e_cdo hκ, e_csame hκ] mixed [] Try.func41 rfl (by kernel_rfl) #[.slice Al l.length cl, (SV.agg [.v (.int .i64 c1), .v (.int .i64 c2), .v (.int .i64 c3), .v (.int .i64 c4), .v (.int .i64 c5), .v (.int .i64 c6), .v (.int .i64 c7), .v (.int .i64 c8), .v (.int .i64 c9)]).den] [(0, .c (.sl 200000 Al (κ _ l.length) cl)), (1, .agg [.v (.int .i64 c1), .v (.int .i64 c2), .v (.int .i64 c3), .v (.int .i64 c4), .v (.int .i64 c5), .v (.int .i64 c6), .v (.int .i64 c7), .v (.int .i64 c8), .v (.int .i64 c9)])] _ w rfl [.tmp 4] rfl (by simp) (by subst hκ; simp [SV.den, C.den, kid]) hH (fun v H' => IsX (.val (.c (.v (.bool true)))) v H') hκ ?_).mono ?_
  rotate_left
  · subst hκ; intro e w' h; exact h
  intro P' hP'
  cbv
  repeat' (first | refine And.intro ?_ ?_ | (intro _; cbv) | (refine tst_mk (fun h => ?_) (fun h => ?_) <;> cbv) | (refine LookX.nil ?_; cbv) | (refine LookX.auto hκ ?_; cbv))
  all_goals (try (show Side _; refine ⟨?_⟩; subst hκ; delta kid at *; first | exact rfl | exact trivial | exact ⟨rfl, rfl, .inl rfl⟩ | exact ⟨rfl, rfl, rfl⟩ | exact ⟨rfl, rfl, .inl rfl⟩ | exact ⟨rfl, rfl, .inl rfl, encL_ok _⟩ | exact ⟨rfl, by (have q0 : ¬ (40 : Int) < (l.length : Int) := of_decide_eq_false (by assumption)); omega, hside⟩ | exact Nat.le_trans (st_len hside) (by decide) | ((try dsimp only at *); have z1 := st_len hside; (try simp only [maxLen]); have q0 : ¬ (40 : Int) < (l.length : Int) := of_decide_eq_false (by assumption); (try simp only [setTo_len, noS_len, List.length_append, List.length_cons, List.length_nil, List.length_map, and_self, true_or, or_true, eq_self, true_and, and_true, Nat.zero_add, Nat.add_zero]); (first | done | omega); done)))
  all_goals (try (show Side _; subst hκ; delta kid at *; refine ⟨?_⟩; rw [(do_5 _ _ c2 c3 c4 c5 c6 c7 c8 c9).1]; first | exact Nat.le_trans (st_len hside) (by decide) | exact ⟨Nat.le_trans (st_len hside) (by decide), Nat.le_trans (st_len hside) (by decide)⟩))
  all_goals (try (show Side _; subst hκ; delta kid at *; refine ⟨?_⟩; rw [(do_5 _ _ c2 c3 c4 c5 c6 c7 c8 c9).1, (do_5 _ _ c2 c3 c4 c5 c6 c7 c8 c9).1]; first | exact Nat.le_trans (st_len hside) (by decide) | exact ⟨Nat.le_trans (st_len hside) (by decide), Nat.le_trans (st_len hside) (by decide)⟩))
  all_goals (clear hH; subst hκ; delta kid at *; (try dsimp only at *))
  all_goals (try (show IsX _ _ _; exact IsX.val_ rfl))
  all_goals (show IsX _ _ _; refine IsX.bool_ ?_)
  all_goals (simp only [(do_5 _ _ c2 c3 c4 c5 c6 c7 c8 c9).1, (do_5 _ _ c2 c3 c4 c5 c6 c7 c8 c9).2, sameL_self, beq_self_eq_true, Bool.and_true, Bool.and_self, Bool.true_eq_false, Bool.false_eq_true] at *)
end Go.Proofs.Ytbcicjmepojlnaa.Eng
/- Contracts of functions (printed by genx.py of this work): what each hands back; condition: as its 'hside' says. -/
namespace Go.Proofs.Ytbcicjmepojlnaa.Eng
open Go Go.RowKit
set_option linter.unusedVariables false
set_option linter.unusedSimpArgs false
set_option maxRecDepth 100000 in
set_option maxHeartbeats 4000000 in
theorem k_changeOwn (l : List Cl) (c1 : Int) (c2 : Int) (c3 : Int) (c4 : Int) (c5 : Int) (c6 : Int) (c7 : Int) (c8 : Int) (c9 : Int) (Al : Option Addr) (cl : Nat) (hside : okC l ∧ In64 (⟨c1, c2, c3, c4, c5, c6, c7, c8, c9⟩ : Cl).a ∧ In64 (⟨c1, c2, c3, c4, c5, c6, c7, c8, c9⟩ : Cl).f) (w : World) (hl : (Ent.rd Al 9 l.length (encCs l)).holds w) :
    Calls Try.prog 39 #[.slice Al l.length cl, (SV.agg [.v (.int .i64 c1), .v (.int .i64 c2), .v (.int .i64 c3), .v (.int .i64 c4), .v (.int .i64 c5), .v (.int .i64 c6), .v (.int .i64 c7), .v (.int .i64 c8), .v (.int .i64 c9)]).den] w fun e w' => ∃ v H', e = .returned v.den ∧ IsX (.val (.c (.v (.bool true)))) v H' ∧ HSat w (fun _ => False) H' w' := by
  obtain ⟨κ, hκ⟩ : ∃ κ : Kp, κ = kid := ⟨_, rfl⟩
  have hH : HSat w (fun _ => False) (heapOf [(nilId, .rd none 1 0 []), (200000, .rd Al 9 (κ _ l.length) (κ _ (encCs l)))]) w := by
    subst hκ
    refine HSat.reads fun p hp => ?_
    simp only [List.mem_cons, List.not_mem_nil, or_false] at hp
    rcases hp with rfl | rfl
    · exact ⟨_, _, _, _, rfl, nil_holds w⟩
    · exact ⟨_, _, _, _, rfl, hl⟩
  refine (callsP (n := 50) FTok [e_awake14 hκ, e_play hκ, e_cdo hκ, e_rsame hκ] mixed [] Try.func39 rfl (by kernel_rfl) #[.slice Al l.length cl, (SV.agg [.v (.int .i64 c1), .v (.int .i64 c2), .v (.int .i64 c3), .v (.int .i64 c4), .v (.int .i64 c5), .v (.int .i64 c6), .v (.int .i64 c7), .v (.int .i64 c8), .v (.int .i64 c9)]).den] [(0, .c (.sl 200000 Al (κ _ l.length) cl)), (1, .agg [.v (.int .i64 c1), .v (.int .i64 c2), .v (.int .i64 c3), .v (.int .i64 c4), .v (.int .i64 c5), .v (.int .i64 c6), .v (.int .i64 c7), .v (.int .i64 c8), .v (.int .i64 c9)])] _ w rfl [.tmp 4] rfl (by simp) (by subst hκ; simp [SV.den, C.den, kid]) hH (fun v H' => IsX (.val (.c (.v (.bool true)))) v H') hκ ?_).mono ?_
  rotate_left
  · subst hκ; intro e w' h; exact h
  intro P' hP'
  cbv
  have hok := hside.1
  have hy : (doL (stL l) (stB l) (⟨c1, c2, c3, c4, c5, c6, c7, c8, c9⟩ : Cl)).length ≤ 24 := spR_len (do_ok (st_right hok) hside.2.1 hside.2.2)
  repeat' (first | refine And.intro ?_ ?_ | (intro _; cbv) | (refine tst_mk (fun h => ?_) (fun h => ?_) <;> cbv) | (refine LookX.nil ?_; cbv) | (refine LookX.auto hκ ?_; cbv))
  all_goals (try (show Side _; refine ⟨?_⟩; subst hκ; delta kid at *; first | exact rfl | exact trivial | exact ⟨rfl, rfl, .inl rfl⟩ | exact ⟨rfl, rfl, rfl⟩ | exact ⟨rfl, rfl, .inl rfl⟩ | exact ⟨rfl, rfl, .inl rfl, encL_ok _⟩ | exact ⟨rfl, by (have q0 : ¬ (30 : Int) < (l.length : Int) := of_decide_eq_false (by assumption)); omega, hok⟩ | exact Nat.le_trans (st_len hok) (by decide) | ((try dsimp only at *); have z1 := st_len hok; (try simp only [maxLen]); have q0 : ¬ (30 : Int) < (l.length : Int) := of_decide_eq_false (by assumption); (try simp only [setTo_len, noS_len, List.length_append, List.length_cons, List.length_nil, List.length_map, and_self, true_or, or_true, eq_self, true_and, and_true, Nat.zero_add, Nat.add_zero]); (first | done | omega); done)))
  all_goals (try (show IsX _ _ _; subst hκ; exact IsX.val_ rfl))
  all_goals (try (show Side _; exact ⟨by subst hκ; delta kid; decide⟩))
  rename_i b3 A1 c10 A2 c20 b5 Ab A3 c30 A4 c40 b8 b9
  refine loopP hP' FTok [e_rsame hκ] mixed [5, 7, 8] (σ := Nat) (fun i => [(10, .c (.v (.int .i64 (κ _ ((i : Nat) : Int)))))]) (fun i => [(5, .blk b5 88 [.sl 21 A1 (κ _ (stL l).length) c10, .v (.int .i64 (κ _ (stB l)))]), (21, .row A1 c10 53 6 (κ _ (stL l).length) (κ _ (encL (stL l)))), (27, .row A3 c30 53 6 (κ _ (stL l).length) (κ _ (encL (stL l)))), (8, .blk b8 88 [.sl 31 A4 (κ _ (doL (stL l) (stB l) (⟨c1, c2, c3, c4, c5, c6, c7, c8, c9⟩ : Cl)).length) c40, .v (.int .i64 (κ _ (doB (stL l) (stB l) (⟨c1, c2, c3, c4, c5, c6, c7, c8, c9⟩ : Cl))))]), (31, .row A4 c40 53 6 (κ _ (doL (stL l) (stB l) (⟨c1, c2, c3, c4, c5, c6, c7, c8, c9⟩ : Cl)).length) (κ _ (encL (modTo (backA 8) (doL (stL l) (stB l) (⟨c1, c2, c3, c4, c5, c6, c7, c8, c9⟩ : Cl)) i))))]) (fun i => (doL (stL l) (stB l) (⟨c1, c2, c3, c4, c5, c6, c7, c8, c9⟩ : Cl)).length - i) 0 [5, 21, 27, 8, 31] ?_ (by decide) ?_ hκ ?_
  · cbv
    all_goals (subst hκ; delta kid; repeat' (first | exact rfl | exact trivial | refine And.intro ?_ ?_ | exact Nat.zero_add _ | exact congrArg (fun n => Value.slice A3 n c30) (Nat.zero_add _) | exact List.nil_append _ | exact back_zero 8 _))
  · cbv
    all_goals (subst hκ; delta kid; repeat' (first | exact rfl | exact trivial | refine And.intro ?_ ?_ | exact Nat.zero_add _ | exact congrArg (fun n => Value.slice A3 n c30) (Nat.zero_add _) | exact List.nil_append _ | exact back_zero 8 _))
  intro i
  cbv
  refine tst_mk (fun h => ?_) (fun h => ?_)
  · have hx : i < (doL (stL l) (stB l) (⟨c1, c2, c3, c4, c5, c6, c7, c8, c9⟩ : Cl)).length := by subst hκ; delta kid at h; have h2 : (i : Int) < ((doL (stL l) (stB l) (⟨c1, c2, c3, c4, c5, c6, c7, c8, c9⟩ : Cl)).length : Int) := of_decide_eq_true h; omega
    cbv
    repeat' (first | refine And.intro ?_ ?_ | (intro _; cbv) | (refine tst_mk (fun h => ?_) (fun h => ?_) <;> cbv) | (refine LookX.nil ?_; cbv) | (refine LookX.auto hκ ?_; cbv))
    all_goals (clear hH; subst hκ; delta kid at *; (try dsimp only at *))
    all_goals (try (exact ⟨la_ix hx⟩))
    all_goals (try (exact ⟨rfl⟩))
    all_goals (try (exact ⟨Nat.zero_lt_one, back_in 8 hx⟩))
    refine ⟨⟨i + 1, [5, 21, 27, 8, 31], (by show (doL (stL l) (stB l) (⟨c1, c2, c3, c4, c5, c6, c7, c8, c9⟩ : Cl)).length - (i + 1) < (doL (stL l) (stB l) (⟨c1, c2, c3, c4, c5, c6, c7, c8, c9⟩ : Cl)).length - i; omega), by decide, ?_, ?_⟩⟩
    all_goals repeat' (first | exact rfl | exact trivial | refine And.intro ?_ ?_ | exact congrArg (Value.int .i64) (nat_succ (by omega)) | exact back_put 8 hx)
  · cbv
    repeat' (first | refine And.intro ?_ ?_ | (intro _; cbv) | (refine tst_mk (fun h => ?_) (fun h => ?_) <;> cbv) | (refine LookX.nil ?_; cbv) | (refine LookX.auto hκ ?_; cbv))
    all_goals (try (show Side _; refine ⟨?_⟩; subst hκ; delta kid at *; first | exact rfl | exact trivial | exact ⟨rfl, rfl, .inl rfl⟩ | exact ⟨rfl, rfl, rfl⟩ | exact ⟨rfl, rfl, .inl rfl⟩ | exact ⟨rfl, rfl, .inl rfl, encL_ok _⟩ | exact ⟨rfl, by (have q0 : ¬ (30 : Int) < (l.length : Int) := of_decide_eq_false (by assumption)); omega, hok⟩ | exact Nat.le_trans (st_len hok) (by decide) | ((try dsimp only at *); have z1 := st_len hok; (try simp only [maxLen]); have q0 : ¬ (30 : Int) < (l.length : Int) := of_decide_eq_false (by assumption); (try simp only [setTo_len, noS_len, List.length_append, List.length_cons, List.length_nil, List.length_map, and_self, true_or, or_true, eq_self, true_and, and_true, Nat.zero_add, Nat.add_zero]); (first | done | omega); done)))
    all_goals (clear hH; subst hκ; delta kid at *; (try dsimp only at *))
    refine IsX.bool_ ?_
    exact sameL_self _
end Go.Proofs.Ytbcicjmepojlnaa.Eng
/- Calls in two parts: the pure facts; no condition but those typed. -/
namespace Go.Proofs.Ytbcicjmepojlnaa.Eng
open Go Go.RowKit
set_option autoImplicit false
set_option linter.unusedSimpArgs false
set_option linter.unusedVariables false
set_option linter.unusedSectionVars false
def anI (l : List Cl) (i : Nat) : An := doN (stL (l.take i)) (stB (l.take i)) (nthCl l i)
theorem stA_get {l : List Cl} {i : Nat} (h : i < l.length) : (stA l)[i]? = some (anI l i) := by
  have e : stA l = stA (l.take (i + 1)) ++ plA (plS ([], 65536) (l.take (i + 1))) (l.drop (i + 1)) := by
    have e2 := plA_app (l.take (i + 1)) (l.drop (i + 1)) ([], 65536)
    rw [List.take_append_drop] at e2
    exact e2
  have e3 := stA_tle h
  rw [e, stA_next h, List.append_assoc, List.getElem?_append_right (by omega), e3, Nat.sub_self]
  rfl
theorem sa_take {l : List Cl} {i : Nat} (h : i < l.length) : takeN (encAs (stA l)) (((i : Nat) : Int).toNat * 6) 6 = some (encAn (anI l i)) := by
  rw [Int.toNat_natCast]
  exact enc_take encAn_len (by decide) (stA l) i _ (stA_get h)
theorem anI_take {l : List Cl} {k i : Nat} (h : i < k) : anI (l.take k) i = anI l i := by
  have e1 : (l.take k).take i = l.take i := by rw [List.take_take, Nat.min_eq_left (by omega)]
  have e2 : nthCl (l.take k) i = nthCl l i := by
    unfold nthCl
    rw [List.getD_eq_getElem?_getD, List.getD_eq_getElem?_getD, List.getElem?_take, if_pos h]
  unfold anI
  rw [e1, e2]
theorem sf_take {l : List Cl} {k i : Nat} (h : i < k) (hk : k ≤ l.length) : takeN (encAs (stA (l.take k))) (((i : Nat) : Int).toNat * 6) 6 = some (encAn (anI l i)) := by
  have := sa_take (l := l.take k) (i := i) (by rw [List.length_take]; omega)
  rw [anI_take h] at this
  exact this
theorem sa_ix {l : List Cl} {i : Nat} (h : i < l.length) : 0 < 6 ∧ 0 ≤ ((i : Nat) : Int) ∧ ((i : Nat) : Int) < ((stA l).length : Int) := by rw [stA_len]; omega
theorem sf_ix {l : List Cl} {k i : Nat} (h : i < k) (hk : k ≤ l.length) : 0 < 6 ∧ 0 ≤ ((i : Nat) : Int) ∧ ((i : Nat) : Int) < ((stA (l.take k)).length : Int) := by rw [stA_len, List.length_take]; omega
theorem cl_ix6 {l : List Cl} {i : Nat} (h : i < l.length) : 0 < 9 ∧ 0 ≤ ((i : Nat) : Int) ∧ ((i : Nat) : Int) < (l.length : Int) := by omega
abbrev atK (a : Int) (l : List Cl) : Int := Int.tmod (IntKind.i64.wrap a) (IntKind.i64.wrap ((l.length : Int) + 1))
theorem atK_in {a : Int} {l : List Cl} (ha : 0 ≤ a ∧ a ≤ 255) (hl : l.length ≤ 60) : IntKind.i64.wrap ((l.length : Int) + 1) = (l.length : Int) + 1 ∧ atK a l = ((atK a l).toNat : Int) ∧ (atK a l).toNat ≤ l.length ∧ 0 ≤ atK a l ∧ atK a l ≤ (l.length : Int) := by
  have e0 : IntKind.i64.wrap a = a := w64_id (by unfold In64; omega)
  have e1 : IntKind.i64.wrap ((l.length : Int) + 1) = (l.length : Int) + 1 := w64_id (by unfold In64; omega)
  have h1 : 0 ≤ Int.tmod a ((l.length : Int) + 1) := Int.tmod_nonneg _ ha.1
  have h2 : Int.tmod a ((l.length : Int) + 1) < (l.length : Int) + 1 := Int.tmod_lt_of_pos _ (by omega)
  have e2 : atK a l = Int.tmod a ((l.length : Int) + 1) := by
    unfold atK
    rw [e0, e1]
  rw [e2]
  generalize Int.tmod a ((l.length : Int) + 1) = t at h1 h2
  exact ⟨e1, by omega, by omega, by omega, by omega⟩
theorem part_row {l : List Cl} {t : Int} {k : Nat} (hk : k = t.toNat) : List.take ((t.toNat - Int.toNat 0) * 9) (List.drop (Int.toNat 0 * 9) (encCs l)) = encCs (l.take k) := by
  subst hk
  have e : Int.toNat 0 = 0 := rfl
  rw [e, Nat.zero_mul, List.drop_zero, Nat.sub_zero]
  exact encCs_take l _
theorem part_len {l : List Cl} {t : Int} {k : Nat} (hk : k = t.toNat) (hl : k ≤ l.length) : (l.take k).length = t.toNat - Int.toNat 0 := by
  subst hk
  have e : Int.toNat 0 = 0 := rfl
  rw [e, List.length_take]
  omega
theorem lt_k {t : Int} {k i : Nat} (hk : k = t.toNat) (h : decide (((i : Nat) : Int) < t) = true) : i < k := by
  have := of_decide_eq_true h
  omega
theorem anI_no {x : An} (h : (!(x.er == x.er && (x.v == x.v && (x.t.p == x.t.p && (x.t.sh == x.t.sh && (x.t.b == x.t.b && (x.t.o == x.t.o && true))))))) = true) : False := by
  rw [eqN_cells] at h
  cases h
theorem parts_1 {l : List Cl} (h : okC l) : decide (((stL l).length : Int) ≤ 24) = true := by
  rw [decide_eq_true_eq]
  have := st_len h
  omega
theorem parts_2 {l : List Cl} (h : okC l) (h2 : spR (stL l) (stB l) = false) : False := by
  rw [st_right h] at h2
  cases h2
theorem parts_3 {l : List Ar} {b : Int} (h : (b == b && sameL l l) = false) : False := by
  rw [sameL_self, beq_self_eq_true] at h
  cases h
end Go.Proofs.Ytbcicjmepojlnaa.Eng
/- Contracts of functions (printed by genx.py of this work): what each hands back; condition: as its 'hside' says. -/
namespace Go.Proofs.Ytbcicjmepojlnaa.Eng
open Go Go.RowKit
set_option linter.unusedVariables false
set_option linter.unusedSimpArgs false
set_option maxRecDepth 100000 in
set_option maxHeartbeats 4000000 in
theorem k_changeParts (l : List Cl) (at_ : Int) (Al : Option Addr) (cl : Nat) (kl : l.length ≤ cl) (hside : okC l ∧ 0 ≤ at_ ∧ at_ ≤ 255) (w : World) (hl : (Ent.rd Al 9 l.length (encCs l)).holds w) :
    Calls Try.prog 40 #[.slice Al l.length cl, (SV.c (.v (.int .u8 at_))).den] w fun e w' => ∃ v H', e = .returned v.den ∧ IsX (.val (.c (.v (.bool true)))) v H' ∧ HSat w (fun _ => False) H' w' := by
  obtain ⟨κ, hκ⟩ : ∃ κ : Kp, κ = kid := ⟨_, rfl⟩
  have hH : HSat w (fun _ => False) (heapOf [(nilId, .rd none 1 0 []), (200000, .rd Al 9 (κ _ l.length) (κ _ (encCs l)))]) w := by
    subst hκ
    refine HSat.reads fun p hp => ?_
    simp only [List.mem_cons, List.not_mem_nil, or_false] at hp
    rcases hp with rfl | rfl
    · exact ⟨_, _, _, _, rfl, nil_holds w⟩
    · exact ⟨_, _, _, _, rfl, hl⟩
  refine (callsP (n := 90) FTok [e_awake14 hκ, e_play hκ, e_cdo hκ, e_csame hκ, e_cright hκ] mixed [(9, [[], [0], [0, 1], [0], [0], [], [], [], [7], [0, 1, 2, 3, 4, 5, 6, 7, 8], [0, 1, 2, 3, 4, 5, 6, 7, 8, 9], [8], []]), (10, [[], [0], [0, 1], [0], [0], []]), (16, [[], [0], [], [], [0, 1, 2, 3], [0, 1, 2, 3, 4], [0, 1, 2, 3], [0, 1, 2, 3], []])] Try.func40 rfl (by kernel_rfl) #[.slice Al l.length cl, (SV.c (.v (.int .u8 at_))).den] [(0, .c (.sl 200000 Al (κ _ l.length) cl)), (1, .c (.v (.int .u8 at_)))] _ w rfl [.tmp 4] rfl (by simp) (by subst hκ; simp [SV.den, C.den, kid]) hH (fun v H' => IsX (.val (.c (.v (.bool true)))) v H') hκ ?_).mono ?_
  rotate_left
  · subst hκ; intro e w' h; exact h
  intro P' hP'
  cbv
  have hok := hside.1
  obtain ⟨k, hk⟩ : ∃ k, k = (atK at_ l).toNat := ⟨_, rfl⟩
  repeat' (first | refine And.intro ?_ ?_ | (intro _; cbv) | (refine tst_mk (fun h => ?_) (fun h => ?_) <;> cbv) | (refine LookX.nil ?_; cbv) | (refine LookX.auto hκ ?_; cbv) | (refine LookX.mk' (x := κ _ (l.take k)) (by subst hκ; delta kid at *; exact part_row hk) ?_; cbv))
  all_goals (try (show Side _; subst hκ; delta kid at *; have q0 : l.length ≤ 60 := by { have q0 : ¬ (60 : Int) < (l.length : Int) := of_decide_eq_false (by assumption); omega }; obtain ⟨q1, q2, q3, q4, q5⟩ := atK_in hside.2 q0; first | exact ⟨⟨by decide, q4, q5⟩⟩ | (refine ⟨?_⟩; rw [q1]; omega) | exact ⟨⟨part_len hk (by rw [hk]; exact q3), by rw [List.length_take]; omega, okC_take hok k⟩⟩))
  all_goals (try (show Side _; refine ⟨?_⟩; subst hκ; delta kid at *; first | exact rfl | exact trivial | exact ⟨rfl, rfl, .inl rfl⟩ | exact ⟨rfl, rfl, rfl⟩ | exact ⟨rfl, rfl, .inl rfl⟩ | exact ⟨rfl, rfl, .inl rfl, encL_ok _⟩ | exact ⟨rfl, by (have q0 : ¬ (60 : Int) < (l.length : Int) := of_decide_eq_false (by assumption)); omega, hok⟩ | exact Nat.le_trans (st_len hok) (by decide) | ((try dsimp only at *); have z1 := st_len hok; (try simp only [maxLen]); have q0 : ¬ (60 : Int) < (l.length : Int) := of_decide_eq_false (by assumption); (try simp only [setTo_len, noS_len, List.length_append, List.length_cons, List.length_nil, List.length_map, and_self, true_or, or_true, eq_self, true_and, and_true, Nat.zero_add, Nat.add_zero]); (first | done | omega); done)))
  all_goals (try (show IsX _ _ _; subst hκ; exact IsX.val_ rfl))
  rename_i A1 c1 A2 c2 b6 A3 c3 A4 c4 b8
  have hl : l.length ≤ 60 := by subst hκ; delta kid at *; have q0 : l.length ≤ 60 := by { have q0 : ¬ (60 : Int) < (l.length : Int) := of_decide_eq_false (by assumption); omega }; exact q0
  obtain ⟨q1, q2, q3, q4, q5⟩ := atK_in hside.2 hl
  have hk3 : k ≤ l.length := by rw [hk]; exact q3
  refine loopP hP' FTok [e_cdo hκ, e_csame hκ, e_cright hκ] mixed [0, 5, 6, 7, 8, 9] (σ := {i : Nat // k ≤ i ∧ i ≤ l.length} × Option Addr × Nat) (fun q => [(10, .c (.v (.int .i64 (κ _ ((q.1.1 : Nat) : Int)))))]) (fun q => [(200000, .rd Al 9 (κ _ l.length) (κ _ (encCs l))), (6, .blk b6 88 [.sl 30 A1 (κ _ (stL l).length) c1, .v (.int .i64 (κ _ (stB l)))]), (30, .row A1 c1 53 6 (κ _ (stL l).length) (κ _ (encL (stL l)))), (100030, .row A2 c2 31 6 (κ _ (stA l).length) (κ _ (encAs (stA l)))), (8, .blk b8 88 [.sl 300000 q.2.1 (κ _ (stL (l.take q.1.1)).length) q.2.2, .v (.int .i64 (κ _ (stB (l.take q.1.1))))]), (300000, .row q.2.1 q.2.2 53 6 (κ _ (stL (l.take q.1.1)).length) (κ _ (encL (stL (l.take q.1.1))))), (100037, .row A4 c4 31 6 (κ _ (stA (l.take k)).length) (κ _ (encAs (stA (l.take k)))))]) (fun q => l.length - q.1.1) (⟨k, Nat.le_refl k, hk3⟩, A3, c3) [200000, 6, 30, 100030, 8, 37, 100037] ?_ (by decide) ?_ hκ ?_
  · cbv
    all_goals (subst hκ; delta kid; repeat' (first | exact rfl | exact trivial | refine And.intro ?_ ?_ | exact congrArg (Value.int .i64) (q2.trans (congrArg (fun (n : Nat) => (n : Int)) hk.symm))))
  · cbv
    all_goals (subst hκ; delta kid; repeat' (first | exact rfl | exact trivial | refine And.intro ?_ ?_))
  rintro ⟨⟨i, hi1, hi2⟩, A5, c5⟩
  have hi2 : i ≤ l.length := hi2
  cbv
  refine tst_mk (fun h => ?_) (fun h => ?_)
  · have hx : i < l.length := by subst hκ; delta kid at h; have h2 : (i : Int) < (l.length : Int) := of_decide_eq_true h; omega
    cbv
    repeat' (first | refine And.intro ?_ ?_ | (intro _; cbv) | (refine tst_mk (fun h => ?_) (fun h => ?_) <;> cbv) | (refine LookX.nil ?_; cbv) | (refine LookX.auto hκ ?_; cbv) | (refine LookN.mk' (x := [.v (.int .i64 (κ _ (nthCl l i).k)), .v (.int .i64 (κ _ (nthCl l i).a)), .v (.int .i64 (κ _ (nthCl l i).n)), .v (.int .i64 (κ _ (nthCl l i).w)), .v (.int .i64 (κ _ (nthCl l i).to)), .v (.int .i64 (κ _ (nthCl l i).p)), .v (.int .i64 (κ _ (nthCl l i).f)), .v (.int .i64 (κ _ (nthCl l i).b)), .v (.int .i64 (κ _ (nthCl l i).o))]) (by subst hκ; delta kid at *; exact cl_take hx) ?_; cbv) | (refine LookN.mk' (x := [.v (.int .i64 (κ _ (anI l i).er)), .v (.int .i64 (κ _ (anI l i).v)), .v (.int .i64 (κ _ (anI l i).t.p)), .v (.bool (κ _ (anI l i).t.sh)), .v (.int .i64 (κ _ (anI l i).t.b)), .v (.int .i64 (κ _ (anI l i).t.o))]) (by subst hκ; delta kid at *; exact sa_take hx) ?_; cbv))
    all_goals (try (show Side _; (clear hH; subst hκ; delta kid at *; (try dsimp only at *)); first | exact ⟨cl_ix6 hx⟩ | exact ⟨sa_ix hx⟩ | exact ⟨Nat.le_trans (st_len (okC_take hok i)) (by decide)⟩))
    all_goals (try (show Side _; refine ⟨?_⟩; subst hκ; delta kid at *; first | exact rfl | exact trivial | exact ⟨rfl, rfl, .inl rfl⟩ | exact ⟨rfl, rfl, rfl⟩ | exact ⟨rfl, rfl, .inl rfl⟩ | exact ⟨rfl, rfl, .inl rfl, encL_ok _⟩ | exact ⟨rfl, by (have q0 : ¬ (60 : Int) < (l.length : Int) := of_decide_eq_false (by assumption)); omega, hok⟩ | exact Nat.le_trans (st_len hok) (by decide) | ((try dsimp only at *); have z1 := st_len hok; (try simp only [maxLen]); have q0 : ¬ (60 : Int) < (l.length : Int) := of_decide_eq_false (by assumption); (try simp only [setTo_len, noS_len, List.length_append, List.length_cons, List.length_nil, List.length_map, and_self, true_or, or_true, eq_self, true_and, and_true, Nat.zero_add, Nat.add_zero]); (first | done | omega); done)))
    all_goals (clear hH; subst hκ; delta kid at *; (try dsimp only at *))
    all_goals (try (exfalso; exact anI_no (x := anI l i) h; done))
    all_goals (rename_i A6 c6 _ _ _ _)
    all_goals (refine ⟨⟨(⟨i + 1, by omega, hx⟩, A6, c6), [200000, 6, 30, 100030, 8, 53, 100037], (by show l.length - (i + 1) < l.length - i; omega), by decide, ?_, ?_⟩⟩)
    all_goals repeat' (first | exact rfl | exact trivial | refine And.intro ?_ ?_ | exact congrArg (Value.int .i64) (nat_succ (by omega)) | exact fit_sp (stL_next hx) (stB_next hx) | exact congrArg List.length (stL_next hx).symm | exact congrArg encL (stL_next hx).symm)
  · have hx : i = l.length := by subst hκ; delta kid at h; have h2 : ¬ (i : Int) < (l.length : Int) := of_decide_eq_false h; omega
    have e : l.take i = l := by rw [hx]; exact List.take_length
    rw [e]
    cbv
    refine loopP hP' FTok [e_cdo hκ, e_csame hκ, e_cright hκ] mixed [0, 5, 6, 7, 8, 9] (σ := Nat) (fun q => [(13, .c (.v (.int .i64 (κ _ ((q : Nat) : Int)))))]) (fun q => [(200000, .rd Al 9 (κ _ l.length) (κ _ (encCs l))), (6, .blk b6 88 [.sl 30 A1 (κ _ (stL l).length) c1, .v (.int .i64 (κ _ (stB l)))]), (30, .row A1 c1 53 6 (κ _ (stL l).length) (κ _ (encL (stL l)))), (100030, .row A2 c2 31 6 (κ _ (stA l).length) (κ _ (encAs (stA l)))), (8, .blk b8 88 [.sl 300000 A5 (κ _ (stL l).length) c5, .v (.int .i64 (κ _ (stB l)))]), (300000, .row A5 c5 53 6 (κ _ (stL l).length) (κ _ (encL (stL l)))), (100037, .row A4 c4 31 6 (κ _ (stA (l.take k)).length) (κ _ (encAs (stA (l.take k)))))]) (fun q => k - q) 0 [200000, 6, 30, 100030, 8, 300000, 100037] ?_ (by decide) ?_ hκ ?_
    · cbv
      all_goals (subst hκ; delta kid; repeat' (first | exact rfl | exact trivial | refine And.intro ?_ ?_))
    · cbv
      all_goals (subst hκ; delta kid; repeat' (first | exact rfl | exact trivial | refine And.intro ?_ ?_))
    intro j
    cbv
    refine tst_mk (fun h => ?_) (fun h => ?_)
    · have hj : j < k := by subst hκ; delta kid at h; exact lt_k hk h
      have hj2 : j < l.length := by omega
      cbv
      repeat' (first | refine And.intro ?_ ?_ | (intro _; cbv) | (refine tst_mk (fun h => ?_) (fun h => ?_) <;> cbv) | (refine LookX.nil ?_; cbv) | (refine LookX.auto hκ ?_; cbv) | (refine LookN.mk' (x := [.v (.int .i64 (κ _ (anI l j).er)), .v (.int .i64 (κ _ (anI l j).v)), .v (.int .i64 (κ _ (anI l j).t.p)), .v (.bool (κ _ (anI l j).t.sh)), .v (.int .i64 (κ _ (anI l j).t.b)), .v (.int .i64 (κ _ (anI l j).t.o))]) (by subst hκ; delta kid at *; exact sf_take hj hk3) ?_; cbv) | (refine LookN.mk' (x := [.v (.int .i64 (κ _ (anI l j).er)), .v (.int .i64 (κ _ (anI l j).v)), .v (.int .i64 (κ _ (anI l j).t.p)), .v (.bool (κ _ (anI l j).t.sh)), .v (.int .i64 (κ _ (anI l j).t.b)), .v (.int .i64 (κ _ (anI l j).t.o))]) (by subst hκ; delta kid at *; exact sa_take hj2) ?_; cbv))
      all_goals (try (show Side _; (clear hH; subst hκ; delta kid at *; (try dsimp only at *)); first | exact ⟨rfl⟩ | exact ⟨sf_ix hj hk3⟩ | exact ⟨sa_ix hj2⟩))
      all_goals (clear hH; subst hκ; delta kid at *; (try dsimp only at *))
      all_goals (try (exfalso; exact anI_no (x := anI l j) h; done))
      all_goals (refine ⟨⟨j + 1, [200000, 6, 30, 100030, 8, 300000, 100037], (by show k - (j + 1) < k - j; omega), by decide, ?_, ?_⟩⟩)
      all_goals repeat' (first | exact rfl | exact trivial | refine And.intro ?_ ?_ | exact congrArg (Value.int .i64) (nat_succ (by omega)))
    · cbv
      repeat' (first | refine And.intro ?_ ?_ | (intro _; cbv) | (refine tst_mk (fun h => ?_) (fun h => ?_) <;> cbv) | (refine LookX.nil ?_; cbv) | (refine LookX.auto hκ ?_; cbv))
      all_goals (try (show Side _; refine ⟨?_⟩; subst hκ; delta kid at *; first | exact rfl | exact trivial | exact ⟨rfl, rfl, .inl rfl⟩ | exact ⟨rfl, rfl, rfl⟩ | exact ⟨rfl, rfl, .inl rfl⟩ | exact ⟨rfl, rfl, .inl rfl, encL_ok _⟩ | exact ⟨rfl, by (have q0 : ¬ (60 : Int) < (l.length : Int) := of_decide_eq_false (by assumption)); omega, hok⟩ | exact Nat.le_trans (st_len hok) (by decide) | ((try dsimp only at *); have z1 := st_len hok; (try simp only [maxLen]); have q0 : ¬ (60 : Int) < (l.length : Int) := of_decide_eq_false (by assumption); (try simp only [setTo_len, noS_len, List.length_append, List.length_cons, List.length_nil, List.length_map, and_self, true_or, or_true, eq_self, true_and, and_true, Nat.zero_add, Nat.add_zero]); (first | done | omega); done)))
      all_goals (clear hH; subst hκ; delta kid at *; (try dsimp only at *))
      all_goals (show IsX _ _ _; refine IsX.bool_ ?_)
      all_goals (first | exact parts_1 hok | exact (parts_2 hok h).elim | exact (parts_3 h).elim | exact (parts_2 hok (by with_reducible assumption)).elim | exact (parts_3 (by with_reducible assumption)).elim)
end Go.Proofs.Ytbcicjmepojlnaa.Eng
