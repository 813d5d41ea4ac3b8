/- Texts of this work, laid together: symbolic execution over the model, contracts of the program's functions, what they come to; conditions: as each says. -/
import Derived.Test.YtbcicjmepojlnaaGreatPkGBD
/- Contracts of functions (printed by genx.py of this work): what each hands back; condition: as its 'hside' says. -/
namespace Go.Proofs.YtbcicjmepojlnaaGreat.Eng
open Go Go.RowKit
set_option linter.unusedVariables false
set_option linter.unusedSimpArgs false
theorem b_gsize : Bodied Tryz.prog 97 := bodied Tryz.func97 rfl (by decide)
def F_gsize : FunX := fun κ avs => match avs with
  | [.val (.c (.v (.int .i64 n)))] => some (κ _ (True), (.val (.c (.v (.bool (κ _ (sizeG n)))))))
  | _ => none
set_option maxRecDepth 100000 in
set_option maxHeartbeats 4000000 in
theorem k_gsize (n : Int) (hside : True) (w : World) :
    Calls Tryz.prog 97 #[(SV.c (.v (.int .i64 n))).den] w fun e w' => ∃ v H', e = .returned v.den ∧ IsX (.val (.c (.v (.bool (sizeG n))))) v H' ∧ HSat w (fun _ => False) H' w' := by
  obtain ⟨κ, hκ⟩ : ∃ κ : Kp, κ = kid := ⟨_, rfl⟩
  have hH : HSat w (fun _ => False) (heapOf [(nilId, .rd none 1 0 [])]) w := by
    subst hκ
    refine HSat.reads fun p hp => ?_
    simp only [List.mem_cons, List.not_mem_nil, or_false] at hp
    rcases hp with rfl
    · exact ⟨_, _, _, _, rfl, nil_holds w⟩
  refine (callsP (n := 14) FTok [] mixed [] Tryz.func97 rfl (by kernel_rfl) #[(SV.c (.v (.int .i64 n))).den] [(0, .c (.v (.int .i64 n)))] _ w rfl [.tmp 2] rfl (by simp) (by subst hκ; simp [SV.den, C.den, kid]) hH (fun v H' => IsX (.val (.c (.v (.bool (κ _ (sizeG n)))))) v H') hκ ?_).mono ?_
  rotate_left
  · subst hκ; intro e w' h; exact h
  intro P' hP'
  cbv
  repeat' (first | refine And.intro ?_ ?_ | (intro _; cbv) | (refine tst_mk (fun h => ?_) (fun h => ?_) <;> cbv) | (refine LookX.nil ?_; cbv) | (refine LookX.auto hκ ?_; cbv))
  all_goals (clear hH; subst hκ; delta kid at *; (try dsimp only at *))
  all_goals (try (exact ⟨trivial⟩))
  all_goals (try (exact ⟨by decide⟩))
  all_goals (show IsX _ _ _; refine IsX.val_ ?_; simp only [SV.den, SV.den0, C.den, List.map_cons, List.map_nil, sizeG, whole, GT.gt, GE.ge]; (try simp only [*, Bool.or_true, Bool.true_or, Bool.or_false, Bool.false_or, Bool.and_true, Bool.true_and, Bool.and_false, Bool.false_and, Bool.not_true, Bool.not_false, if_true, if_false, Bool.false_eq_true]); (first | done | rfl | (exfalso; simp_all; done) | skip))
def e_gsize {κ : Kp} (hκ : κ = kid) : ESpec Tryz.prog := fnES [.flat] b_gsize F_gsize hκ fun avs p r hF hp => by
  unfold F_gsize at hF
  split at hF
  case h_2 => cases hF
  rename_i n
  simp only [kid, Option.some.injEq, Prod.mk.injEq] at hF
  obtain ⟨rfl, rfl⟩ := hF
  refine ⟨trivial, fun vs w hR => ?_⟩
  obtain ⟨vs0, rfl, hR⟩ := hR
  have hR' : vs0 = [] := hR
  subst hR'
  exact k_gsize n hp w
theorem b_gup : Bodied Tryz.prog 109 := bodied Tryz.func109 rfl (by decide)
def F_gup : FunX := fun κ avs => match avs with
  | [.val (.c (.v (.int .i64 n)))] => some (κ _ (True), (.val (.c (.v (.int .i64 (κ _ (upG n)))))))
  | _ => none
set_option maxRecDepth 100000 in
set_option maxHeartbeats 4000000 in
theorem k_gup (n : Int) (hside : True) (w : World) :
    Calls Tryz.prog 109 #[(SV.c (.v (.int .i64 n))).den] w fun e w' => ∃ v H', e = .returned v.den ∧ IsX (.val (.c (.v (.int .i64 (upG n))))) v H' ∧ HSat w (fun _ => False) H' w' := by
  obtain ⟨κ, hκ⟩ : ∃ κ : Kp, κ = kid := ⟨_, rfl⟩
  have hH : HSat w (fun _ => False) (heapOf [(nilId, .rd none 1 0 [])]) w := by
    subst hκ
    refine HSat.reads fun p hp => ?_
    simp only [List.mem_cons, List.not_mem_nil, or_false] at hp
    rcases hp with rfl
    · exact ⟨_, _, _, _, rfl, nil_holds w⟩
  refine (callsP (n := 8) FTok [] mixed [] Tryz.func109 rfl (by kernel_rfl) #[(SV.c (.v (.int .i64 n))).den] [(0, .c (.v (.int .i64 n)))] _ w rfl [.tmp 2] rfl (by simp) (by subst hκ; simp [SV.den, C.den, kid]) hH (fun v H' => IsX (.val (.c (.v (.int .i64 (κ _ (upG n)))))) v H') hκ ?_).mono ?_
  rotate_left
  · subst hκ; intro e w' h; exact h
  intro P' hP'
  cbv
  repeat' (first | refine And.intro ?_ ?_ | (intro _; cbv) | (refine tst_mk (fun h => ?_) (fun h => ?_) <;> cbv) | (refine LookX.nil ?_; cbv) | (refine LookX.auto hκ ?_; cbv))
  all_goals (clear hH; subst hκ; delta kid at *; (try dsimp only at *))
  all_goals (try (exact ⟨trivial⟩))
  all_goals (try (exact ⟨by decide⟩))
  all_goals (show IsX _ _ _; refine IsX.val_ ?_; simp only [SV.den, SV.den0, C.den, List.map_cons, List.map_nil, upG, GT.gt, GE.ge]; (try simp only [*, Bool.or_true, Bool.true_or, Bool.or_false, Bool.false_or, Bool.and_true, Bool.true_and, Bool.and_false, Bool.false_and, Bool.not_true, Bool.not_false, if_true, if_false, Bool.false_eq_true]); (first | done | rfl | (exfalso; simp_all; done) | skip))
def e_gup {κ : Kp} (hκ : κ = kid) : ESpec Tryz.prog := fnES [.flat] b_gup F_gup hκ fun avs p r hF hp => by
  unfold F_gup at hF
  split at hF
  case h_2 => cases hF
  rename_i n
  simp only [kid, Option.some.injEq, Prod.mk.injEq] at hF
  obtain ⟨rfl, rfl⟩ := hF
  refine ⟨trivial, fun vs w hR => ?_⟩
  obtain ⟨vs0, rfl, hR⟩ := hR
  have hR' : vs0 = [] := hR
  subst hR'
  exact k_gup n hp w
theorem b_gdown : Bodied Tryz.prog 110 := bodied Tryz.func110 rfl (by decide)
def F_gdown : FunX := fun κ avs => match avs with
  | [.val (.c (.v (.int .i64 n)))] => some (κ _ (True), (.val (.c (.v (.int .i64 (κ _ (downG n)))))))
  | _ => none
set_option maxRecDepth 100000 in
set_option maxHeartbeats 4000000 in
theorem k_gdown (n : Int) (hside : True) (w : World) :
    Calls Tryz.prog 110 #[(SV.c (.v (.int .i64 n))).den] w fun e w' => ∃ v H', e = .returned v.den ∧ IsX (.val (.c (.v (.int .i64 (downG n))))) v H' ∧ HSat w (fun _ => False) H' w' := by
  obtain ⟨κ, hκ⟩ : ∃ κ : Kp, κ = kid := ⟨_, rfl⟩
  have hH : HSat w (fun _ => False) (heapOf [(nilId, .rd none 1 0 [])]) w := by
    subst hκ
    refine HSat.reads fun p hp => ?_
    simp only [List.mem_cons, List.not_mem_nil, or_false] at hp
    rcases hp with rfl
    · exact ⟨_, _, _, _, rfl, nil_holds w⟩
  refine (callsP (n := 6) FTok [] mixed [] Tryz.func110 rfl (by kernel_rfl) #[(SV.c (.v (.int .i64 n))).den] [(0, .c (.v (.int .i64 n)))] _ w rfl [.tmp 2] rfl (by simp) (by subst hκ; simp [SV.den, C.den, kid]) hH (fun v H' => IsX (.val (.c (.v (.int .i64 (κ _ (downG n)))))) v H') hκ ?_).mono ?_
  rotate_left
  · subst hκ; intro e w' h; exact h
  intro P' hP'
  cbv
  repeat' (first | refine And.intro ?_ ?_ | (intro _; cbv) | (refine tst_mk (fun h => ?_) (fun h => ?_) <;> cbv) | (refine LookX.nil ?_; cbv) | (refine LookX.auto hκ ?_; cbv))
  all_goals (clear hH; subst hκ; delta kid at *; (try dsimp only at *))
  all_goals (try (exact ⟨trivial⟩))
  all_goals (try (exact ⟨by decide⟩))
  all_goals (show IsX _ _ _; refine IsX.val_ ?_; simp only [SV.den, SV.den0, C.den, List.map_cons, List.map_nil, downG, GT.gt, GE.ge]; (try simp only [*, Bool.or_true, Bool.true_or, Bool.or_false, Bool.false_or, Bool.and_true, Bool.true_and, Bool.and_false, Bool.false_and, Bool.not_true, Bool.not_false, if_true, if_false, Bool.false_eq_true]); (first | done | rfl | (exfalso; simp_all; done) | skip))
def e_gdown {κ : Kp} (hκ : κ = kid) : ESpec Tryz.prog := fnES [.flat] b_gdown F_gdown hκ fun avs p r hF hp => by
  unfold F_gdown at hF
  split at hF
  case h_2 => cases hF
  rename_i n
  simp only [kid, Option.some.injEq, Prod.mk.injEq] at hF
  obtain ⟨rfl, rfl⟩ := hF
  refine ⟨trivial, fun vs w hR => ?_⟩
  obtain ⟨vs0, rfl, hR⟩ := hR
  have hR' : vs0 = [] := hR
  subst hR'
  exact k_gdown n hp w
theorem b_gin : Bodied Tryz.prog 100 := bodied Tryz.func100 rfl (by decide)
def F_gin : FunX := fun κ avs => match avs with
  | [.val (.agg [.v (.int .i64 g1), .v (.int .i64 g2)]), .val (.c (.v (.int .i64 lo))), .val (.c (.v (.int .i64 hi)))] => some (κ _ (True), (.val (.agg [.v (.int .i64 (κ _ ((inG (⟨g1, g2⟩ : Gp) lo hi).s))), .v (.int .i64 (κ _ ((inG (⟨g1, g2⟩ : Gp) lo hi).e)))])))
  | _ => none
set_option maxRecDepth 100000 in
set_option maxHeartbeats 4000000 in
theorem k_gin (g1 : Int) (g2 : Int) (lo : Int) (hi : Int) (hside : True) (w : World) :
    Calls Tryz.prog 100 #[(SV.agg [.v (.int .i64 g1), .v (.int .i64 g2)]).den, (SV.c (.v (.int .i64 lo))).den, (SV.c (.v (.int .i64 hi))).den] w fun e w' => ∃ v H', e = .returned v.den ∧ IsX (.val (.agg [.v (.int .i64 ((inG (⟨g1, g2⟩ : Gp) lo hi).s)), .v (.int .i64 ((inG (⟨g1, g2⟩ : Gp) lo hi).e))])) v H' ∧ HSat w (fun _ => False) H' w' := by
  obtain ⟨κ, hκ⟩ : ∃ κ : Kp, κ = kid := ⟨_, rfl⟩
  have hH : HSat w (fun _ => False) (heapOf [(nilId, .rd none 1 0 [])]) w := by
    subst hκ
    refine HSat.reads fun p hp => ?_
    simp only [List.mem_cons, List.not_mem_nil, or_false] at hp
    rcases hp with rfl
    · exact ⟨_, _, _, _, rfl, nil_holds w⟩
  refine (callsP (n := 24) FTok [e_gup hκ, e_gdown hκ] mixed [(2, [[], [], [0, 1], [0, 1], [], [0, 1, 2, 3, 4], [0, 1, 2, 3, 4], [0, 1, 2, 3, 4, 5, 6], [0, 1, 4, 5, 6], [0, 1, 4], [], []])] Tryz.func100 rfl (by kernel_rfl) #[(SV.agg [.v (.int .i64 g1), .v (.int .i64 g2)]).den, (SV.c (.v (.int .i64 lo))).den, (SV.c (.v (.int .i64 hi))).den] [(0, .agg [.v (.int .i64 g1), .v (.int .i64 g2)]), (1, .c (.v (.int .i64 lo))), (2, .c (.v (.int .i64 hi)))] _ w rfl [.cell 6 117] rfl (by simp) (by subst hκ; simp [SV.den, C.den, kid]) hH (fun v H' => IsX (.val (.agg [.v (.int .i64 (κ _ ((inG (⟨g1, g2⟩ : Gp) lo hi).s))), .v (.int .i64 (κ _ ((inG (⟨g1, g2⟩ : Gp) lo hi).e)))])) v H') hκ ?_).mono ?_
  rotate_left
  · subst hκ; intro e w' h; exact h
  intro P' hP'
  cbv
  repeat' (first | refine And.intro ?_ ?_ | (intro _; cbv) | (refine tst_mk (fun h => ?_) (fun h => ?_) <;> cbv) | (refine LookX.nil ?_; cbv) | (refine LookX.auto hκ ?_; cbv))
  all_goals (clear hH; subst hκ; delta kid at *; (try dsimp only at *))
  all_goals (try (exact ⟨trivial⟩))
  all_goals (try (exact ⟨by decide⟩))
  all_goals (show IsX _ _ _; refine IsX.val_ ?_; simp only [SV.den, SV.den0, C.den, List.map_cons, List.map_nil, inG, clampG, maxI, minI, GT.gt, GE.ge]; (try simp only [*, Bool.or_true, Bool.true_or, Bool.or_false, Bool.false_or, Bool.and_true, Bool.true_and, Bool.and_false, Bool.false_and, Bool.not_true, Bool.not_false, if_true, if_false, Bool.false_eq_true]); (first | done | rfl | (exfalso; simp_all; done) | skip))
def e_gin {κ : Kp} (hκ : κ = kid) : ESpec Tryz.prog := fnES [.flat, .flat, .flat] b_gin F_gin hκ fun avs p r hF hp => by
  unfold F_gin at hF
  split at hF
  case h_2 => cases hF
  rename_i g1 g2 lo hi
  simp only [kid, Option.some.injEq, Prod.mk.injEq] at hF
  obtain ⟨rfl, rfl⟩ := hF
  refine ⟨trivial, fun vs w hR => ?_⟩
  obtain ⟨vs0, rfl, hR⟩ := hR
  obtain ⟨vs1, rfl, hR⟩ := hR
  obtain ⟨vs2, rfl, hR⟩ := hR
  have hR' : vs2 = [] := hR
  subst hR'
  exact k_gin g1 g2 lo hi hp w
theorem b_gaps : Bodied Tryz.prog 98 := bodied Tryz.func98 rfl (by decide)
def F_gaps : FunX := fun κ avs => match avs with
  | [.lst l xl] => some (κ _ (l.length ≤ 300000), (.row 117 2 ((κ _ ((gapsL l).length))) ((κ _ (encG (gapsL l)))) (fun x => .c x)))
  | _ => none
set_option maxRecDepth 100000 in
set_option maxHeartbeats 4000000 in
theorem k_gaps (l : List Ar) (Al : Option Addr) (cl : Nat) (hside : l.length ≤ 300000) (w : World) (hl : (Ent.rd Al 6 l.length (encL l)).holds w) :
    Calls Tryz.prog 98 #[.slice Al l.length cl] w fun e w' => ∃ v H', e = .returned v.den ∧ IsX (.row 117 2 (((gapsL l).length)) ((encG (gapsL l))) (fun x => .c x)) v H' ∧ HSat w (fun _ => False) H' w' := by
  obtain ⟨κ, hκ⟩ : ∃ κ : Kp, κ = kid := ⟨_, rfl⟩
  have hH : HSat w (fun _ => False) (heapOf [(nilId, .rd none 1 0 []), (200000, .rd Al 6 (κ _ l.length) (κ _ (encL l)))]) w := by
    subst hκ
    refine HSat.reads fun p hp => ?_
    simp only [List.mem_cons, List.not_mem_nil, or_false] at hp
    rcases hp with rfl | rfl
    · exact ⟨_, _, _, _, rfl, nil_holds w⟩
    · exact ⟨_, _, _, _, rfl, hl⟩
  refine (callsM (n := 16) FTok [e_right hκ, e_each hκ] mixed [] Tryz.func98 rfl (by kernel_rfl) #[.slice Al l.length cl] [(0, .c (.sl 200000 Al (κ _ l.length) cl))] _ w rfl [.tmp 2] rfl (by simp) (by subst hκ; simp [SV.den, C.den, kid]) hH (fun v H' => IsX (.row 117 2 ((κ _ ((gapsL l).length))) ((κ _ (encG (gapsL l)))) (fun x => .c x)) v H') hκ ?_).mono ?_
  rotate_left
  · subst hκ; intro e w' h; exact h
  intro P' hP'
  cbv
  repeat' (first | refine And.intro ?_ ?_ | (intro _; cbv) | (refine tst_mk (fun h => ?_) (fun h => ?_) <;> cbv) | (refine LookX.nil ?_; cbv) | (refine LookX.auto hκ ?_; cbv))
  all_goals (try (show Side _; refine ⟨?_⟩; subst hκ; delta kid at *; first | exact rfl | exact trivial | exact ⟨rfl, rfl, .inl rfl⟩ | ((try dsimp only at *); (try simp only [setTo_len, noS_len, List.length_append, List.length_cons, List.length_nil, List.length_map, and_self, true_or, or_true, eq_self, true_and, and_true, Nat.zero_add, Nat.add_zero]); (first | done | omega); done)))
  rotate_left
  · (clear hH; subst hκ; delta kid at *; (try dsimp only at *))
    exact IsX.nilG (gaps_no (by with_reducible assumption)) rfl
  rename_i b3 b9
  have hr : rightL l = true := by subst hκ; exact h
  refine rangeM_each hP' FTok [e_right hκ, e_each hκ] mixed (id := 9) (lid := 200000) (A := Al) (zs := l) rfl (by subst hκ; rfl) (by omega) (by decide) (σ := Option Addr × Nat) (τ := Empty) (fun _ _ => True) (fun _ _ => True) (fun pre s => [(200000, .rd Al 6 (κ _ l.length) (κ _ (encL l))), (3, .blk b3 114 [.sl 14 s.1 (κ _ pre.length) s.2]), (14, .row s.1 s.2 117 2 (κ _ pre.length) (κ _ (encG pre)))]) (fun _ r => nomatch r) (none, 0) trivial [200000, 3, 999999] (by decide) ?_ (fun pre s => by subst hκ; rfl) [3] [] ?_ hκ ?_ ?_ (fun pre r => nomatch r)
  · cbv
    all_goals (subst hκ; delta kid; repeat' (first | exact rfl | exact trivial | refine And.intro ?_ ?_))
  · cbv
    all_goals (subst hκ; delta kid; repeat' (first | exact rfl | exact trivial | refine And.intro ?_ ?_))
  · rintro pre x ⟨A2, c2⟩ - hpre
    have hpl := pre_len hpre
    cbv
    repeat' (first | refine And.intro ?_ ?_ | (intro _; cbv) | (refine tst_mk (fun h => ?_) (fun h => ?_) <;> cbv) | (refine LookX.nil ?_; cbv) | (refine LookX.auto hκ ?_; cbv))
    all_goals (clear hH; subst hκ; delta kid at *; (try dsimp only at *))
    · exact ⟨by omega, by simp only [maxLen]; omega⟩
    · exact ⟨rfl, rfl, .inl rfl, rfl⟩
    · exact ⟨rfl, rfl, rfl, rfl, rfl⟩
    · rename_i A3 c3
      refine ⟨⟨(A3, c3), [200000, 3, 14], trivial, by decide, ?_⟩⟩
      repeat' (first | exact rfl | exact trivial | refine And.intro ?_ ?_ | exact snoc_len pre x | exact encG_snoc pre x | exact congrArg (fun n => [Value.slice A3 n c3]) (snoc_len pre x))
  · rintro ⟨A2, c2⟩ -
    cbv
    (clear hH; subst hκ; delta kid at *; (try dsimp only at *))
    exact IsX.rowG (gaps_yes hr).symm rfl rfl
def e_gaps {κ : Kp} (hκ : κ = kid) : ESpec Tryz.prog := fnES [.list] b_gaps F_gaps hκ fun avs p r hF hp => by
  unfold F_gaps at hF
  split at hF
  case h_2 => cases hF
  rename_i l xl
  simp only [kid, Option.some.injEq, Prod.mk.injEq] at hF
  obtain ⟨rfl, rfl⟩ := hF
  refine ⟨fun x y h => by simp [SV.den, SV.den0, h], fun vs w hR => ?_⟩
  obtain ⟨il, Al, cl, vs0, rfl, rfl, hl, hR⟩ := hR
  have hR' : vs0 = [] := hR
  subst hR'
  exact k_gaps l Al cl hp w hl
theorem b_lowest : Bodied Tryz.prog 75 := bodied Tryz.func75 rfl (by decide)
def F_lowest : FunX := fun κ avs => match avs with
  | [.lst l xl, .val (.c (.v (.int .i64 lo))), .val (.c (.v (.int .i64 hi))), .val (.c (.v (.int .i64 n)))] => some (κ _ (l.length ≤ 300000), (.val (.tup [.c (.v (.int .i64 (κ _ ((lowN l lo hi n).1)))), .c (.v (.bool (κ _ ((lowN l lo hi n).2))))])))
  | _ => none
set_option maxRecDepth 100000 in
set_option maxHeartbeats 4000000 in
theorem k_lowest (l : List Ar) (lo : Int) (hi : Int) (n : Int) (Al : Option Addr) (cl : Nat) (hside : l.length ≤ 300000) (w : World) (hl : (Ent.rd Al 6 l.length (encL l)).holds w) :
    Calls Tryz.prog 75 #[.slice Al l.length cl, (SV.c (.v (.int .i64 lo))).den, (SV.c (.v (.int .i64 hi))).den, (SV.c (.v (.int .i64 n))).den] w fun e w' => ∃ v H', e = .returned v.den ∧ IsX (.val (.tup [.c (.v (.int .i64 ((lowN l lo hi n).1))), .c (.v (.bool ((lowN l lo hi n).2)))])) v H' ∧ HSat w (fun _ => False) H' w' := by
  obtain ⟨κ, hκ⟩ : ∃ κ : Kp, κ = kid := ⟨_, rfl⟩
  have hH : HSat w (fun _ => False) (heapOf [(nilId, .rd none 1 0 []), (200000, .rd Al 6 (κ _ l.length) (κ _ (encL l)))]) w := by
    subst hκ
    refine HSat.reads fun p hp => ?_
    simp only [List.mem_cons, List.not_mem_nil, or_false] at hp
    rcases hp with rfl | rfl
    · exact ⟨_, _, _, _, rfl, nil_holds w⟩
    · exact ⟨_, _, _, _, rfl, hl⟩
  refine (callsM (n := 35) FTok [e_right hκ, e_each hκ, e_gsize hκ, e_gin hκ] mixed [] Tryz.func75 rfl (by kernel_rfl) #[.slice Al l.length cl, (SV.c (.v (.int .i64 lo))).den, (SV.c (.v (.int .i64 hi))).den, (SV.c (.v (.int .i64 n))).den] [(0, .c (.sl 200000 Al (κ _ l.length) cl)), (1, .c (.v (.int .i64 lo))), (2, .c (.v (.int .i64 hi))), (3, .c (.v (.int .i64 n)))] _ w rfl [.cell 8 2, .cell 9 4] rfl (by simp) (by subst hκ; simp [SV.den, C.den, kid]) hH (fun v H' => IsX (.val (.tup [.c (.v (.int .i64 (κ _ ((lowN l lo hi n).1)))), .c (.v (.bool (κ _ ((lowN l lo hi n).2))))])) v H') hκ ?_).mono ?_
  rotate_left
  · subst hκ; intro e w' h; exact h
  intro P' hP'
  cbv
  repeat' (first | refine And.intro ?_ ?_ | (intro _; cbv) | (refine tst_mk (fun h => ?_) (fun h => ?_) <;> cbv) | (refine LookX.nil ?_; cbv) | (refine LookX.auto hκ ?_; cbv))
  all_goals (try (show Side _; refine ⟨?_⟩; subst hκ; delta kid at *; first | exact rfl | exact trivial | exact ⟨rfl, rfl, .inl rfl⟩ | ((try dsimp only at *); (try simp only [setTo_len, noS_len, List.length_append, List.length_cons, List.length_nil, List.length_map, and_self, true_or, or_true, eq_self, true_and, and_true, Nat.zero_add, Nat.add_zero]); (first | done | omega); done)))
  all_goals (try (show IsX _ _ _; (clear hH; subst hκ; delta kid at *; (try dsimp only at *)); first | exact IsX.pair_ (low_no (.inl (by with_reducible assumption))) | exact IsX.pair_ (low_no (.inr (by with_reducible assumption)))))
  rename_i b5 b6 b7 b8 b9 h1 bx
  have hs : sizeG n = true := by subst hκ; exact h1
  have hr : rightL l = true := by subst hκ; exact h
  refine rangeM_each hP' FTok [e_right hκ, e_each hκ, e_gsize hκ, e_gin hκ] mixed (id := 20) (lid := 200000) (A := Al) (zs := l) rfl (by subst hκ; rfl) (by omega) (by decide) (σ := Unit) (τ := Gp) (fun pre _ => ∀ g ∈ pre, roomG lo hi n g = false) (fun _ g => (gapsE l).find? (roomG lo hi n) = some g) (fun _ _ => [(200000, .rd Al 6 (κ _ l.length) (κ _ (encL l))), (5, .blk b5 2 [.v (.int .i64 lo)]), (6, .blk b6 2 [.v (.int .i64 hi)]), (7, .blk b7 2 [.v (.int .i64 n)]), (8, .blk b8 2 [.v (.int .i64 0)]), (9, .blk b9 4 [.v (.bool false)])]) (fun _ g => [(8, .blk b8 2 [.v (.int .i64 (κ _ (inG g lo hi).s))]), (9, .blk b9 4 [.v (.bool true)])]) () (fun g hg => by cases hg) [200000, 5, 6, 7, 8, 9] (by decide) ?_ (fun pre s => by subst hκ; rfl) [5, 6, 7, 8, 9] [] ?_ hκ ?_ ?_ ?_
  · cbv
    all_goals (subst hκ; delta kid; repeat' (first | exact rfl | exact trivial | refine And.intro ?_ ?_))
  · cbv
    all_goals (subst hκ; delta kid; repeat' (first | exact rfl | exact trivial | refine And.intro ?_ ?_))
  · rintro pre x - hiv hpre
    cbv
    repeat' (first | refine And.intro ?_ ?_ | (intro _; cbv) | (refine tst_mk (fun h => ?_) (fun h => ?_) <;> cbv) | (refine LookX.nil ?_; cbv) | (refine LookX.auto hκ ?_; cbv))
    all_goals (clear hH; subst hκ; delta kid at *; (try dsimp only at *))
    · exact ⟨trivial⟩
    · refine ⟨⟨x, [8, 9], find_here hpre hiv h, by decide, ?_⟩⟩
      repeat' (first | exact rfl | exact trivial | refine And.intro ?_ ?_)
    · refine ⟨⟨(), [200000, 5, 6, 7, 8, 9], room_snoc hiv h, by decide, ?_⟩⟩
      repeat' (first | exact rfl | exact trivial | refine And.intro ?_ ?_)
  · rintro - hiv
    cbv
    (clear hH; subst hκ; delta kid at *; (try dsimp only at *))
    exact IsX.pair_ (low_none hs hr hiv)
  · rintro pre g hiv -
    cbv
    (clear hH; subst hκ; delta kid at *; (try dsimp only at *))
    exact IsX.pair_ (low_here hs hr hiv)
def e_lowest {κ : Kp} (hκ : κ = kid) : ESpec Tryz.prog := fnES [.list, .flat, .flat, .flat] b_lowest F_lowest hκ fun avs p r hF hp => by
  unfold F_lowest at hF
  split at hF
  case h_2 => cases hF
  rename_i l xl lo hi n
  simp only [kid, Option.some.injEq, Prod.mk.injEq] at hF
  obtain ⟨rfl, rfl⟩ := hF
  refine ⟨trivial, fun vs w hR => ?_⟩
  obtain ⟨il, Al, cl, vs0, rfl, rfl, hl, hR⟩ := hR
  obtain ⟨vs1, rfl, hR⟩ := hR
  obtain ⟨vs2, rfl, hR⟩ := hR
  obtain ⟨vs3, rfl, hR⟩ := hR
  have hR' : vs3 = [] := hR
  subst hR'
  exact k_lowest l lo hi n Al cl hp w hl
theorem b_highest : Bodied Tryz.prog 76 := bodied Tryz.func76 rfl (by decide)
def F_highest : FunX := fun κ avs => match avs with
  | [.lst l xl, .val (.c (.v (.int .i64 lo))), .val (.c (.v (.int .i64 hi))), .val (.c (.v (.int .i64 n)))] => some (κ _ (l.length ≤ 300000), (.val (.tup [.c (.v (.int .i64 (κ _ ((highN l lo hi n).1)))), .c (.v (.bool (κ _ ((highN l lo hi n).2))))])))
  | _ => none
set_option maxRecDepth 100000 in
set_option maxHeartbeats 4000000 in
theorem k_highest (l : List Ar) (lo : Int) (hi : Int) (n : Int) (Al : Option Addr) (cl : Nat) (hside : l.length ≤ 300000) (w : World) (hl : (Ent.rd Al 6 l.length (encL l)).holds w) :
    Calls Tryz.prog 76 #[.slice Al l.length cl, (SV.c (.v (.int .i64 lo))).den, (SV.c (.v (.int .i64 hi))).den, (SV.c (.v (.int .i64 n))).den] w fun e w' => ∃ v H', e = .returned v.den ∧ IsX (.val (.tup [.c (.v (.int .i64 ((highN l lo hi n).1))), .c (.v (.bool ((highN l lo hi n).2)))])) v H' ∧ HSat w (fun _ => False) H' w' := by
  obtain ⟨κ, hκ⟩ : ∃ κ : Kp, κ = kid := ⟨_, rfl⟩
  have hH : HSat w (fun _ => False) (heapOf [(nilId, .rd none 1 0 []), (200000, .rd Al 6 (κ _ l.length) (κ _ (encL l)))]) w := by
    subst hκ
    refine HSat.reads fun p hp => ?_
    simp only [List.mem_cons, List.not_mem_nil, or_false] at hp
    rcases hp with rfl | rfl
    · exact ⟨_, _, _, _, rfl, nil_holds w⟩
    · exact ⟨_, _, _, _, rfl, hl⟩
  refine (callsM (n := 41) FTok [e_right hκ, e_each hκ, e_gsize hκ, e_gin hκ] mixed [(9, [[], [0], [1], []])] Tryz.func76 rfl (by kernel_rfl) #[.slice Al l.length cl, (SV.c (.v (.int .i64 lo))).den, (SV.c (.v (.int .i64 hi))).den, (SV.c (.v (.int .i64 n))).den] [(0, .c (.sl 200000 Al (κ _ l.length) cl)), (1, .c (.v (.int .i64 lo))), (2, .c (.v (.int .i64 hi))), (3, .c (.v (.int .i64 n)))] _ w rfl [.tmp 8, .tmp 9] rfl (by simp) (by subst hκ; simp [SV.den, C.den, kid]) hH (fun v H' => IsX (.val (.tup [.c (.v (.int .i64 (κ _ ((highN l lo hi n).1)))), .c (.v (.bool (κ _ ((highN l lo hi n).2))))])) v H') hκ ?_).mono ?_
  rotate_left
  · subst hκ; intro e w' h; exact h
  intro P' hP'
  cbv
  repeat' (first | refine And.intro ?_ ?_ | (intro _; cbv) | (refine tst_mk (fun h => ?_) (fun h => ?_) <;> cbv) | (refine LookX.nil ?_; cbv) | (refine LookX.auto hκ ?_; cbv))
  all_goals (try (show Side _; refine ⟨?_⟩; subst hκ; delta kid at *; first | exact rfl | exact trivial | exact ⟨rfl, rfl, .inl rfl⟩ | ((try dsimp only at *); (try simp only [setTo_len, noS_len, List.length_append, List.length_cons, List.length_nil, List.length_map, and_self, true_or, or_true, eq_self, true_and, and_true, Nat.zero_add, Nat.add_zero]); (first | done | omega); done)))
  all_goals (try (show IsX _ _ _; (clear hH; subst hκ; delta kid at *; (try dsimp only at *)); first | exact IsX.pair_ (high_no (.inl (by with_reducible assumption))) | exact IsX.pair_ (high_no (.inr (by with_reducible assumption)))))
  rename_i b5 b6 b7 h1 b8 b9 bx
  have hs : sizeG n = true := by subst hκ; exact h1
  have hr : rightL l = true := by subst hκ; exact h
  refine rangeM_each hP' FTok [e_right hκ, e_each hκ, e_gsize hκ, e_gin hκ] mixed (id := 22) (lid := 200000) (A := Al) (zs := l) rfl (by subst hκ; rfl) (by omega) (by decide) (σ := Unit) (τ := Empty) (fun _ _ => True) (fun _ _ => True) (fun pre _ => [(200000, .rd Al 6 (κ _ l.length) (κ _ (encL l))), (5, .blk b5 2 [.v (.int .i64 lo)]), (6, .blk b6 2 [.v (.int .i64 hi)]), (7, .blk b7 2 [.v (.int .i64 n)]), (10, .blk b8 2 [.v (.int .i64 (κ _ (highF lo hi n pre).1))]), (11, .blk b9 4 [.v (.bool (κ _ (highF lo hi n pre).2))])]) (fun _ r => nomatch r) () trivial [200000, 5, 6, 7, 10, 11] (by decide) ?_ (fun pre s => by subst hκ; rfl) [5, 6, 7, 10, 11] [] ?_ hκ ?_ ?_ (fun pre r => nomatch r)
  · cbv
    all_goals (subst hκ; delta kid; repeat' (first | exact rfl | exact trivial | refine And.intro ?_ ?_))
  · cbv
    all_goals (subst hκ; delta kid; repeat' (first | exact rfl | exact trivial | refine And.intro ?_ ?_))
  · rintro pre x - - hpre
    cbv
    repeat' (first | refine And.intro ?_ ?_ | (intro _; cbv) | (refine tst_mk (fun h => ?_) (fun h => ?_) <;> cbv) | (refine LookX.nil ?_; cbv) | (refine LookX.auto hκ ?_; cbv))
    all_goals (clear hH; subst hκ; delta kid at *; (try dsimp only at *))
    · exact ⟨trivial⟩
    · refine ⟨⟨(), [200000, 5, 6, 7, 10, 11], trivial, by decide, ?_⟩⟩
      repeat' (first | exact rfl | exact trivial | refine And.intro ?_ ?_ | exact congrArg (fun v => [Value.int .i64 v.1]) (high_y h) | exact congrArg (fun v => [Value.bool v.2]) (high_y h))
    · refine ⟨⟨(), [200000, 5, 6, 7, 10, 11], trivial, by decide, ?_⟩⟩
      repeat' (first | exact rfl | exact trivial | refine And.intro ?_ ?_ | exact congrArg (fun v => [Value.int .i64 v.1]) (high_n h) | exact congrArg (fun v => [Value.bool v.2]) (high_n h))
  · rintro - -
    cbv
    repeat' (first | refine And.intro ?_ ?_ | (intro _; cbv) | (refine tst_mk (fun h => ?_) (fun h => ?_) <;> cbv) | (refine LookX.nil ?_; cbv) | (refine LookX.auto hκ ?_; cbv))
    all_goals (clear hH; subst hκ; delta kid at *; (try dsimp only at *))
    exact IsX.pair_ (high_yes hs hr)
def e_highest {κ : Kp} (hκ : κ = kid) : ESpec Tryz.prog := fnES [.list, .flat, .flat, .flat] b_highest F_highest hκ fun avs p r hF hp => by
  unfold F_highest at hF
  split at hF
  case h_2 => cases hF
  rename_i l xl lo hi n
  simp only [kid, Option.some.injEq, Prod.mk.injEq] at hF
  obtain ⟨rfl, rfl⟩ := hF
  refine ⟨trivial, fun vs w hR => ?_⟩
  obtain ⟨il, Al, cl, vs0, rfl, rfl, hl, hR⟩ := hR
  obtain ⟨vs1, rfl, hR⟩ := hR
  obtain ⟨vs2, rfl, hR⟩ := hR
  obtain ⟨vs3, rfl, hR⟩ := hR
  have hR' : vs3 = [] := hR
  subst hR'
  exact k_highest l lo hi n Al cl hp w hl
end Go.Proofs.YtbcicjmepojlnaaGreat.Eng
