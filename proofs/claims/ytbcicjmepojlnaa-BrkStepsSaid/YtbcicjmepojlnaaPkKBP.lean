/- Texts of this work, laid together: symbolic execution over the model, contracts of the program's functions, what they come to; conditions: as each says. -/
import Derived.Test.YtbcicjmepojlnaaPkKBC
/- Contracts of functions (printed by genx.py of this work): what each hands back; condition: as its 'hside' says. -/
namespace Go.Proofs.Ytbcicjmepojlnaa.Eng
open Go Go.RowKit
set_option linter.unusedVariables false
set_option linter.unusedSimpArgs false
theorem b_bright : Bodied Try.prog 72 := bodied Try.func72 rfl (by decide)
def F_bright : FunX := fun κ avs => match avs with
  | [.val (.c (.v (.int .i64 n)))] => some (κ _ (True), (.val (.c (.v (.bool (κ _ (brkR n)))))))
  | _ => none
set_option maxRecDepth 100000 in
set_option maxHeartbeats 4000000 in
theorem k_bright (n : Int) (hside : True) (w : World) :
    Calls Try.prog 72 #[(SV.c (.v (.int .i64 n))).den] w fun e w' => ∃ v H', e = .returned v.den ∧ IsX (.val (.c (.v (.bool (brkR n))))) v H' ∧ HSat w (fun _ => False) H' w' := by
  obtain ⟨κ, hκ⟩ : ∃ κ : Kp, κ = kid := ⟨_, rfl⟩
  have hH : HSat w (fun _ => False) (heapOf [(nilId, .rd none 1 0 [])]) w := by
    subst hκ
    refine HSat.reads fun p hp => ?_
    simp only [List.mem_cons, List.not_mem_nil, or_false] at hp
    rcases hp with rfl
    · exact ⟨_, _, _, _, rfl, nil_holds w⟩
  refine (callsP (n := 9) FTok [] mixed [] Try.func72 rfl (by kernel_rfl) #[(SV.c (.v (.int .i64 n))).den] [(0, .c (.v (.int .i64 n)))] _ w rfl [.tmp 2] rfl (by simp) (by subst hκ; simp [SV.den, C.den, kid]) hH (fun v H' => IsX (.val (.c (.v (.bool (κ _ (brkR n)))))) v H') hκ ?_).mono ?_
  rotate_left
  · subst hκ; intro e w' h; exact h
  intro P' hP'
  cbv
  repeat' (first | refine And.intro ?_ ?_ | (intro _; cbv) | (refine tst_mk (fun h => ?_) (fun h => ?_) <;> cbv) | (refine LookX.nil ?_; cbv) | (refine LookX.auto hκ ?_; cbv))
  all_goals (try (show Side _; refine ⟨?_⟩; subst hκ; delta kid at *; first | exact rfl | exact trivial | exact ⟨rfl, rfl, .inl rfl⟩ | ((try dsimp only at *); (try simp only [setTo_len, noS_len, List.length_append, List.length_cons, List.length_nil, List.length_map, and_self, true_or, or_true, eq_self, true_and, and_true, Nat.zero_add, Nat.add_zero]); (first | done | omega); done)))
  all_goals (clear hH; subst hκ; delta kid at *; (try dsimp only at *))
  all_goals (try (exact ⟨trivial⟩))
  all_goals (try (exact ⟨by decide⟩))
  all_goals (show IsX _ _ _; refine IsX.val_ ?_; simp only [SV.den, SV.den0, C.den, List.map_cons, List.map_nil, brkR, GT.gt, GE.ge]; (try simp only [*, Bool.or_true, Bool.true_or, Bool.or_false, Bool.false_or, Bool.and_true, Bool.true_and, Bool.and_false, Bool.false_and, Bool.not_true, Bool.not_false, if_true, if_false, Bool.false_eq_true]); (first | done | rfl | (exfalso; simp_all; done) | skip))
def e_bright {κ : Kp} (hκ : κ = kid) : ESpec Try.prog := fnES [.flat] b_bright F_bright hκ fun avs p r hF hp => by
  unfold F_bright at hF
  split at hF
  case h_2 => cases hF
  rename_i n
  simp only [kid, Option.some.injEq, Prod.mk.injEq] at hF
  obtain ⟨rfl, rfl⟩ := hF
  refine ⟨trivial, fun vs w hR => ?_⟩
  obtain ⟨vs0, rfl, hR⟩ := hR
  have hR' : vs0 = [] := hR
  subst hR'
  exact k_bright n hp w
theorem b_bup : Bodied Try.prog 119 := bodied Try.func119 rfl (by decide)
def F_bup : FunX := fun κ avs => match avs with
  | [.val (.c (.v (.int .i64 n)))] => some (κ _ (True), (.val (.c (.v (.int .i64 (κ _ (upG n)))))))
  | _ => none
set_option maxRecDepth 100000 in
set_option maxHeartbeats 4000000 in
theorem k_bup (n : Int) (hside : True) (w : World) :
    Calls Try.prog 119 #[(SV.c (.v (.int .i64 n))).den] w fun e w' => ∃ v H', e = .returned v.den ∧ IsX (.val (.c (.v (.int .i64 (upG n))))) v H' ∧ HSat w (fun _ => False) H' w' := by
  obtain ⟨κ, hκ⟩ : ∃ κ : Kp, κ = kid := ⟨_, rfl⟩
  have hH : HSat w (fun _ => False) (heapOf [(nilId, .rd none 1 0 [])]) w := by
    subst hκ
    refine HSat.reads fun p hp => ?_
    simp only [List.mem_cons, List.not_mem_nil, or_false] at hp
    rcases hp with rfl
    · exact ⟨_, _, _, _, rfl, nil_holds w⟩
  refine (callsP (n := 8) FTok [] mixed [] Try.func119 rfl (by kernel_rfl) #[(SV.c (.v (.int .i64 n))).den] [(0, .c (.v (.int .i64 n)))] _ w rfl [.tmp 2] rfl (by simp) (by subst hκ; simp [SV.den, C.den, kid]) hH (fun v H' => IsX (.val (.c (.v (.int .i64 (κ _ (upG n)))))) v H') hκ ?_).mono ?_
  rotate_left
  · subst hκ; intro e w' h; exact h
  intro P' hP'
  cbv
  repeat' (first | refine And.intro ?_ ?_ | (intro _; cbv) | (refine tst_mk (fun h => ?_) (fun h => ?_) <;> cbv) | (refine LookX.nil ?_; cbv) | (refine LookX.auto hκ ?_; cbv))
  all_goals (try (show Side _; refine ⟨?_⟩; subst hκ; delta kid at *; first | exact rfl | exact trivial | exact ⟨rfl, rfl, .inl rfl⟩ | ((try dsimp only at *); (try simp only [setTo_len, noS_len, List.length_append, List.length_cons, List.length_nil, List.length_map, and_self, true_or, or_true, eq_self, true_and, and_true, Nat.zero_add, Nat.add_zero]); (first | done | omega); done)))
  all_goals (clear hH; subst hκ; delta kid at *; (try dsimp only at *))
  all_goals (try (exact ⟨trivial⟩))
  all_goals (try (exact ⟨by decide⟩))
  all_goals (show IsX _ _ _; refine IsX.val_ ?_; simp only [SV.den, SV.den0, C.den, List.map_cons, List.map_nil, upG, GT.gt, GE.ge]; (try simp only [*, Bool.or_true, Bool.true_or, Bool.or_false, Bool.false_or, Bool.and_true, Bool.true_and, Bool.and_false, Bool.false_and, Bool.not_true, Bool.not_false, if_true, if_false, Bool.false_eq_true]); (first | done | rfl | (exfalso; simp_all; done) | skip))
def e_bup {κ : Kp} (hκ : κ = kid) : ESpec Try.prog := fnES [.flat] b_bup F_bup hκ fun avs p r hF hp => by
  unfold F_bup at hF
  split at hF
  case h_2 => cases hF
  rename_i n
  simp only [kid, Option.some.injEq, Prod.mk.injEq] at hF
  obtain ⟨rfl, rfl⟩ := hF
  refine ⟨trivial, fun vs w hR => ?_⟩
  obtain ⟨vs0, rfl, hR⟩ := hR
  have hR' : vs0 = [] := hR
  subst hR'
  exact k_bup n hp w
theorem b_bwrong : Bodied Try.prog 115 := bodied Try.func115 rfl (by decide)
def F_bwrong : FunX := fun κ avs => match avs with
  | [.lst l xl, .val (.c (.v (.int .i64 m))), .val (.c (.v (.int .i64 q)))] => some (κ _ (l.length ≤ 300000), (.val (.c (.v (.int .i64 (κ _ (brkE l m q)))))))
  | _ => none
set_option maxRecDepth 100000 in
set_option maxHeartbeats 4000000 in
theorem k_bwrong (l : List Ar) (m : Int) (q : Int) (Al : Option Addr) (cl : Nat) (hside : l.length ≤ 300000) (w : World) (hl : (Ent.rd Al 6 l.length (encL l)).holds w) :
    Calls Try.prog 115 #[.slice Al l.length cl, (SV.c (.v (.int .i64 m))).den, (SV.c (.v (.int .i64 q))).den] w fun e w' => ∃ v H', e = .returned v.den ∧ IsX (.val (.c (.v (.int .i64 (brkE l m q))))) v H' ∧ HSat w (fun _ => False) H' w' := by
  obtain ⟨κ, hκ⟩ : ∃ κ : Kp, κ = kid := ⟨_, rfl⟩
  have hH : HSat w (fun _ => False) (heapOf [(nilId, .rd none 1 0 []), (200000, .rd Al 6 (κ _ l.length) (κ _ (encL l)))]) w := by
    subst hκ
    refine HSat.reads fun p hp => ?_
    simp only [List.mem_cons, List.not_mem_nil, or_false] at hp
    rcases hp with rfl | rfl
    · exact ⟨_, _, _, _, rfl, nil_holds w⟩
    · exact ⟨_, _, _, _, rfl, hl⟩
  refine (callsP (n := 46) FTok [e_right hκ, e_bright hκ, e_bup hκ, e_fits hκ] mixed [] Try.func115 rfl (by kernel_rfl) #[.slice Al l.length cl, (SV.c (.v (.int .i64 m))).den, (SV.c (.v (.int .i64 q))).den] [(0, .c (.sl 200000 Al (κ _ l.length) cl)), (1, .c (.v (.int .i64 m))), (2, .c (.v (.int .i64 q)))] _ w rfl [.tmp 6] rfl (by simp) (by subst hκ; simp [SV.den, C.den, kid]) hH (fun v H' => IsX (.val (.c (.v (.int .i64 (κ _ (brkE l m q)))))) v H') hκ ?_).mono ?_
  rotate_left
  · subst hκ; intro e w' h; exact h
  intro P' hP'
  cbv
  repeat' (first | refine And.intro ?_ ?_ | (intro _; cbv) | (refine tst_mk (fun h => ?_) (fun h => ?_) <;> cbv) | (refine LookX.nil ?_; cbv) | (refine LookX.auto hκ ?_; cbv))
  all_goals (try (show Side _; refine ⟨?_⟩; subst hκ; delta kid at *; first | exact rfl | exact trivial | exact ⟨rfl, rfl, .inl rfl⟩ | ((try dsimp only at *); (try simp only [setTo_len, noS_len, List.length_append, List.length_cons, List.length_nil, List.length_map, and_self, true_or, or_true, eq_self, true_and, and_true, Nat.zero_add, Nat.add_zero]); (first | done | omega); done)))
  all_goals (clear hH; subst hκ; delta kid at *; (try dsimp only at *))
  all_goals (try (exact ⟨trivial⟩))
  all_goals (try (exact ⟨by decide⟩))
  all_goals (try simp only [le24] at *)
  all_goals (show IsX _ _ _; refine IsX.val_ ?_; simp only [SV.den, SV.den0, C.den, List.map_cons, List.map_nil, brkE, mayS, GT.gt, GE.ge]; (try simp only [*, Bool.or_true, Bool.true_or, Bool.or_false, Bool.false_or, Bool.and_true, Bool.true_and, Bool.and_false, Bool.false_and, Bool.not_true, Bool.not_false, if_true, if_false, Bool.false_eq_true]); (first | done | rfl | (exfalso; simp_all; done) | skip))
def e_bwrong {κ : Kp} (hκ : κ = kid) : ESpec Try.prog := fnES [.list, .flat, .flat] b_bwrong F_bwrong hκ fun avs p r hF hp => by
  unfold F_bwrong at hF
  split at hF
  case h_2 => cases hF
  rename_i l xl m q
  simp only [kid, Option.some.injEq, Prod.mk.injEq] at hF
  obtain ⟨rfl, rfl⟩ := hF
  refine ⟨trivial, fun vs w hR => ?_⟩
  obtain ⟨il, Al, cl, vs0, rfl, rfl, hl, hR⟩ := hR
  obtain ⟨vs1, rfl, hR⟩ := hR
  obtain ⟨vs2, rfl, hR⟩ := hR
  have hR' : vs2 = [] := hR
  subst hR'
  exact k_bwrong l m q Al cl hp w hl
theorem b_bmoved : Bodied Try.prog 118 := bodied Try.func118 rfl (by decide)
def F_bmoved : FunX := fun κ avs => match avs with
  | [.lst l xl, .val (.c (.v (.int .i64 a))), .val (.c (.v (.int .i64 b)))] => some (κ _ (l.length ≤ 300000), (.alt ((κ _ (brkStay a b))) (xl) (fun x => .c x) ((κ _ (brkMv l a b))) (fun x => .c x)))
  | _ => none
set_option maxRecDepth 100000 in
set_option maxHeartbeats 4000000 in
theorem k_bmoved (l : List Ar) (a : Int) (b : Int) (Al : Option Addr) (cl : Nat) (hside : l.length ≤ 300000) (w : World) (hl : (Ent.rd Al 6 l.length (encL l)).holds w) :
    Calls Try.prog 118 #[.slice Al l.length cl, (SV.c (.v (.int .i64 a))).den, (SV.c (.v (.int .i64 b))).den] w fun e w' => ∃ v H', e = .returned v.den ∧ IsX (.alt ((brkStay a b)) (.sl 200000 Al l.length cl) (fun x => .c x) ((brkMv l a b)) (fun x => .c x)) v H' ∧ HSat w (fun _ => False) H' w' := by
  obtain ⟨κ, hκ⟩ : ∃ κ : Kp, κ = kid := ⟨_, rfl⟩
  have hH : HSat w (fun _ => False) (heapOf [(nilId, .rd none 1 0 []), (200000, .rd Al 6 (κ _ l.length) (κ _ (encL l)))]) w := by
    subst hκ
    refine HSat.reads fun p hp => ?_
    simp only [List.mem_cons, List.not_mem_nil, or_false] at hp
    rcases hp with rfl | rfl
    · exact ⟨_, _, _, _, rfl, nil_holds w⟩
    · exact ⟨_, _, _, _, rfl, hl⟩
  refine (callsP (n := 25) FTok [e_put hκ, e_cut hκ] mixed [] Try.func118 rfl (by kernel_rfl) #[.slice Al l.length cl, (SV.c (.v (.int .i64 a))).den, (SV.c (.v (.int .i64 b))).den] [(0, .c (.sl 200000 Al (κ _ l.length) cl)), (1, .c (.v (.int .i64 a))), (2, .c (.v (.int .i64 b)))] _ w rfl [.tmp 6] rfl (by simp) (by subst hκ; simp [SV.den, C.den, kid]) hH (fun v H' => IsX (.alt ((κ _ (brkStay a b))) (.sl 200000 Al (κ _ l.length) cl) (fun x => .c x) ((κ _ (brkMv l a b))) (fun x => .c x)) v H') hκ ?_).mono ?_
  rotate_left
  · subst hκ; intro e w' h; exact h
  intro P' hP'
  cbv
  repeat' (first | refine And.intro ?_ ?_ | (intro _; cbv) | (refine tst_mk (fun h => ?_) (fun h => ?_) <;> cbv) | (refine LookX.nil ?_; cbv) | (refine LookX.auto hκ ?_; cbv))
  all_goals (try (show Side _; refine ⟨?_⟩; subst hκ; delta kid at *; first | exact rfl | exact trivial | exact ⟨rfl, rfl, .inl rfl⟩ | ((try dsimp only at *); (try simp only [setTo_len, noS_len, List.length_append, List.length_cons, List.length_nil, List.length_map, and_self, true_or, or_true, eq_self, true_and, and_true, Nat.zero_add, Nat.add_zero]); (first | done | omega); done)))
  all_goals (clear hH; subst hκ; delta kid at *; (try dsimp only at *))
  · exact IsX.new_ (mv_1 (l := l) (by with_reducible assumption)).1 (mv_1 (by with_reducible assumption)).2 rfl rfl
  · exact IsX.new_ (mv_2 (l := l) (by with_reducible assumption) (by with_reducible assumption)).1 (mv_2 (by with_reducible assumption) (by with_reducible assumption)).2 rfl rfl
  · exact IsX.same_ (mv_3 (by with_reducible assumption) (by with_reducible assumption)) rfl
def e_bmoved {κ : Kp} (hκ : κ = kid) : ESpec Try.prog := fnES [.list, .flat, .flat] b_bmoved F_bmoved hκ fun avs p r hF hp => by
  unfold F_bmoved at hF
  split at hF
  case h_2 => cases hF
  rename_i l xl a b
  simp only [kid, Option.some.injEq, Prod.mk.injEq] at hF
  obtain ⟨rfl, rfl⟩ := hF
  refine ⟨fun x y h => by simp [SV.den, SV.den0, h], fun vs w hR => ?_⟩
  obtain ⟨il, Al, cl, vs0, rfl, rfl, hl, hR⟩ := hR
  obtain ⟨vs1, rfl, hR⟩ := hR
  obtain ⟨vs2, rfl, hR⟩ := hR
  have hR' : vs2 = [] := hR
  subst hR'
  exact (k_bmoved l a b Al cl hp w hl).mono fun e w' ⟨v, H', h1, h2, h3⟩ => ⟨v, H', h1, h2.swap rfl, h3⟩
theorem b_bmove : Bodied Try.prog 70 := bodied Try.func70 rfl (by decide)
def F_bmove : FunX := fun κ avs => match avs with
  | [.lst l xl, .val (.c (.v (.int .i64 m))), .val (.agg [.v (.int .i64 c1), .v (.int .i64 c2), .v (.int .i64 c3), .v (.int .i64 c4), .v (.int .i64 c5), .v (.int .i64 c6), .v (.int .i64 c7), .v (.int .i64 c8), .v (.int .i64 c9)])] => some (κ _ (l.length ≤ 300000), (.row 53 6 ((κ _ ((brkL l m (⟨c1, c2, c3, c4, c5, c6, c7, c8, c9⟩ : Cl).a).length))) ((κ _ (encL (brkL l m (⟨c1, c2, c3, c4, c5, c6, c7, c8, c9⟩ : Cl).a)))) (fun x => .tup [.c x, .c (.v (.int .i64 (κ _ (brkV l m (⟨c1, c2, c3, c4, c5, c6, c7, c8, c9⟩ : Cl).a)))), .agg [.v (.int .i64 (κ _ ((brkN l m (⟨c1, c2, c3, c4, c5, c6, c7, c8, c9⟩ : Cl).a).er))), .v (.int .i64 (κ _ ((brkN l m (⟨c1, c2, c3, c4, c5, c6, c7, c8, c9⟩ : Cl).a).v))), .v (.int .i64 (κ _ ((brkN l m (⟨c1, c2, c3, c4, c5, c6, c7, c8, c9⟩ : Cl).a).t.p))), .v (.bool (κ _ ((brkN l m (⟨c1, c2, c3, c4, c5, c6, c7, c8, c9⟩ : Cl).a).t.sh))), .v (.int .i64 (κ _ ((brkN l m (⟨c1, c2, c3, c4, c5, c6, c7, c8, c9⟩ : Cl).a).t.b))), .v (.int .i64 (κ _ ((brkN l m (⟨c1, c2, c3, c4, c5, c6, c7, c8, c9⟩ : Cl).a).t.o)))]])))
  | _ => none
set_option maxRecDepth 100000 in
set_option maxHeartbeats 4000000 in
theorem k_bmove (l : List Ar) (m : Int) (c1 : Int) (c2 : Int) (c3 : Int) (c4 : Int) (c5 : Int) (c6 : Int) (c7 : Int) (c8 : Int) (c9 : Int) (Al : Option Addr) (cl : Nat) (hside : l.length ≤ 300000) (w : World) (hl : (Ent.rd Al 6 l.length (encL l)).holds w) :
    Calls Try.prog 70 #[.slice Al l.length cl, (SV.c (.v (.int .i64 m))).den, (SV.agg [.v (.int .i64 c1), .v (.int .i64 c2), .v (.int .i64 c3), .v (.int .i64 c4), .v (.int .i64 c5), .v (.int .i64 c6), .v (.int .i64 c7), .v (.int .i64 c8), .v (.int .i64 c9)]).den] w fun e w' => ∃ v H', e = .returned v.den ∧ IsX (.row 53 6 (((brkL l m (⟨c1, c2, c3, c4, c5, c6, c7, c8, c9⟩ : Cl).a).length)) ((encL (brkL l m (⟨c1, c2, c3, c4, c5, c6, c7, c8, c9⟩ : Cl).a))) (fun x => .tup [.c x, .c (.v (.int .i64 (brkV l m (⟨c1, c2, c3, c4, c5, c6, c7, c8, c9⟩ : Cl).a))), .agg [.v (.int .i64 ((brkN l m (⟨c1, c2, c3, c4, c5, c6, c7, c8, c9⟩ : Cl).a).er)), .v (.int .i64 ((brkN l m (⟨c1, c2, c3, c4, c5, c6, c7, c8, c9⟩ : Cl).a).v)), .v (.int .i64 ((brkN l m (⟨c1, c2, c3, c4, c5, c6, c7, c8, c9⟩ : Cl).a).t.p)), .v (.bool ((brkN l m (⟨c1, c2, c3, c4, c5, c6, c7, c8, c9⟩ : Cl).a).t.sh)), .v (.int .i64 ((brkN l m (⟨c1, c2, c3, c4, c5, c6, c7, c8, c9⟩ : Cl).a).t.b)), .v (.int .i64 ((brkN l m (⟨c1, c2, c3, c4, c5, c6, c7, c8, c9⟩ : Cl).a).t.o))]])) v H' ∧ HSat w (fun _ => False) H' w' := by
  obtain ⟨κ, hκ⟩ : ∃ κ : Kp, κ = kid := ⟨_, rfl⟩
  have hH : HSat w (fun _ => False) (heapOf [(nilId, .rd none 1 0 []), (200000, .rd Al 6 (κ _ l.length) (κ _ (encL l)))]) w := by
    subst hκ
    refine HSat.reads fun p hp => ?_
    simp only [List.mem_cons, List.not_mem_nil, or_false] at hp
    rcases hp with rfl | rfl
    · exact ⟨_, _, _, _, rfl, nil_holds w⟩
    · exact ⟨_, _, _, _, rfl, hl⟩
  refine (callsP (n := 56) FTok [e_bwrong hκ, e_clone hκ, e_bup hκ, e_bmoved hκ, e_kept hκ] mixed [(6, [[], [0], [0, 1], [0, 1], [0, 1, 2, 3], [0, 1, 2, 3], [0, 1], [0], [0, 1, 2, 3, 4, 5, 6, 7], [0, 1, 2, 3, 4, 5, 6, 7], [], [], [], [12], [0, 1, 2, 3, 4, 5, 6, 7, 8, 9, 10, 11, 12, 13], [13], []]), (8, [[], [0], [0, 1], [1, 2], [2], []]), (9, [[], [0], [0], [0, 1, 2], [1, 2, 3], [3], []])] Try.func70 rfl (by kernel_rfl) #[.slice Al l.length cl, (SV.c (.v (.int .i64 m))).den, (SV.agg [.v (.int .i64 c1), .v (.int .i64 c2), .v (.int .i64 c3), .v (.int .i64 c4), .v (.int .i64 c5), .v (.int .i64 c6), .v (.int .i64 c7), .v (.int .i64 c8), .v (.int .i64 c9)]).den] [(0, .c (.sl 200000 Al (κ _ l.length) cl)), (1, .c (.v (.int .i64 m))), (2, .agg [.v (.int .i64 c1), .v (.int .i64 c2), .v (.int .i64 c3), .v (.int .i64 c4), .v (.int .i64 c5), .v (.int .i64 c6), .v (.int .i64 c7), .v (.int .i64 c8), .v (.int .i64 c9)])] _ w rfl [.tmp 6, .tmp 7, .cell 8 31] rfl (by simp) (by subst hκ; simp [SV.den, C.den, kid]) hH (fun v H' => IsX (.row 53 6 ((κ _ ((brkL l m (⟨c1, c2, c3, c4, c5, c6, c7, c8, c9⟩ : Cl).a).length))) ((κ _ (encL (brkL l m (⟨c1, c2, c3, c4, c5, c6, c7, c8, c9⟩ : Cl).a)))) (fun x => .tup [.c x, .c (.v (.int .i64 (κ _ (brkV l m (⟨c1, c2, c3, c4, c5, c6, c7, c8, c9⟩ : Cl).a)))), .agg [.v (.int .i64 (κ _ ((brkN l m (⟨c1, c2, c3, c4, c5, c6, c7, c8, c9⟩ : Cl).a).er))), .v (.int .i64 (κ _ ((brkN l m (⟨c1, c2, c3, c4, c5, c6, c7, c8, c9⟩ : Cl).a).v))), .v (.int .i64 (κ _ ((brkN l m (⟨c1, c2, c3, c4, c5, c6, c7, c8, c9⟩ : Cl).a).t.p))), .v (.bool (κ _ ((brkN l m (⟨c1, c2, c3, c4, c5, c6, c7, c8, c9⟩ : Cl).a).t.sh))), .v (.int .i64 (κ _ ((brkN l m (⟨c1, c2, c3, c4, c5, c6, c7, c8, c9⟩ : Cl).a).t.b))), .v (.int .i64 (κ _ ((brkN l m (⟨c1, c2, c3, c4, c5, c6, c7, c8, c9⟩ : Cl).a).t.o)))]])) v H') hκ ?_).mono ?_
  rotate_left
  · subst hκ; intro e w' h; exact h
  intro P' hP'
  cbv
  repeat' (first | refine And.intro ?_ ?_ | (intro _; cbv) | (refine tst_mk (fun h => ?_) (fun h => ?_) <;> cbv) | (refine LookX.nil ?_; cbv) | (refine LookX.auto hκ ?_; cbv))
  all_goals (try (show Side _; refine ⟨?_⟩; subst hκ; delta kid at *; first | exact rfl | exact trivial | exact ⟨rfl, rfl, .inl rfl⟩ | exact ⟨hside, hside⟩ | exact ⟨hside, brkMv_bd _ _ _ hside (by omega)⟩ | ((try dsimp only at *); (try simp only [setTo_len, noS_len, List.length_append, List.length_cons, List.length_nil, List.length_map, and_self, true_or, or_true, eq_self, true_and, and_true, Nat.zero_add, Nat.add_zero]); (first | done | omega); done)))
  all_goals (clear hH; subst hκ; delta kid at *; (try dsimp only at *))
  all_goals (try have hst := (mv_4 (l := l) (by with_reducible assumption : brkStay (upG m) (upG c2) = true)).symm)
  all_goals (show IsX _ _ _; refine IsX.row3 rfl rfl (fun x => ?_) ?_ <;> (try simp only [brkL, brkN, brkV, brkK, errA, okA, noAt, *, Bool.or_true, Bool.true_or, Bool.or_false, Bool.false_or, Bool.and_true, Bool.true_and, Bool.and_false, Bool.false_and, Bool.not_true, Bool.not_false, if_true, if_false, Bool.false_eq_true]) <;> (try rfl))
def e_bmove {κ : Kp} (hκ : κ = kid) : ESpec Try.prog := fnES [.list, .flat, .flat] b_bmove F_bmove hκ fun avs p r hF hp => by
  unfold F_bmove at hF
  split at hF
  case h_2 => cases hF
  rename_i l xl m c1 c2 c3 c4 c5 c6 c7 c8 c9
  simp only [kid, Option.some.injEq, Prod.mk.injEq] at hF
  obtain ⟨rfl, rfl⟩ := hF
  refine ⟨fun x y h => by simp [SV.den, SV.den0, h], fun vs w hR => ?_⟩
  obtain ⟨il, Al, cl, vs0, rfl, rfl, hl, hR⟩ := hR
  obtain ⟨vs1, rfl, hR⟩ := hR
  obtain ⟨vs2, rfl, hR⟩ := hR
  have hR' : vs2 = [] := hR
  subst hR'
  exact k_bmove l m c1 c2 c3 c4 c5 c6 c7 c8 c9 Al cl hp w hl
end Go.Proofs.Ytbcicjmepojlnaa.Eng
/- Contracts of functions (printed by genx.py of this work): what each hands back; condition: as its 'hside' says. -/
namespace Go.Proofs.Ytbcicjmepojlnaa.Eng
open Go Go.RowKit
set_option linter.unusedVariables false
set_option linter.unusedSimpArgs false
theorem b_rbright : Bodied Try.prog 71 := bodied Try.func71 rfl (by decide)
def F_rbright : FunX := fun κ avs => match avs with
  | [.val (.c (.v (.int .i64 n)))] => some (κ _ (True), (.val (.c (.v (.bool (κ _ (brkR n)))))))
  | _ => none
set_option maxRecDepth 100000 in
set_option maxHeartbeats 4000000 in
theorem k_rbright (n : Int) (hside : True) (w : World) :
    Calls Try.prog 71 #[(SV.c (.v (.int .i64 n))).den] w fun e w' => ∃ v H', e = .returned v.den ∧ IsX (.val (.c (.v (.bool (brkR n))))) v H' ∧ HSat w (fun _ => False) H' w' := by
  obtain ⟨κ, hκ⟩ : ∃ κ : Kp, κ = kid := ⟨_, rfl⟩
  have hH : HSat w (fun _ => False) (heapOf [(nilId, .rd none 1 0 [])]) w := by
    subst hκ
    refine HSat.reads fun p hp => ?_
    simp only [List.mem_cons, List.not_mem_nil, or_false] at hp
    rcases hp with rfl
    · exact ⟨_, _, _, _, rfl, nil_holds w⟩
  refine (callsP (n := 9) FTok [] mixed [] Try.func71 rfl (by kernel_rfl) #[(SV.c (.v (.int .i64 n))).den] [(0, .c (.v (.int .i64 n)))] _ w rfl [.tmp 2] rfl (by simp) (by subst hκ; simp [SV.den, C.den, kid]) hH (fun v H' => IsX (.val (.c (.v (.bool (κ _ (brkR n)))))) v H') hκ ?_).mono ?_
  rotate_left
  · subst hκ; intro e w' h; exact h
  intro P' hP'
  cbv
  repeat' (first | refine And.intro ?_ ?_ | (intro _; cbv) | (refine tst_mk (fun h => ?_) (fun h => ?_) <;> cbv) | (refine LookX.nil ?_; cbv) | (refine LookX.auto hκ ?_; cbv))
  all_goals (try (show Side _; refine ⟨?_⟩; subst hκ; delta kid at *; first | exact rfl | exact trivial | exact ⟨rfl, rfl, .inl rfl⟩ | ((try dsimp only at *); (try simp only [setTo_len, noS_len, List.length_append, List.length_cons, List.length_nil, List.length_map, and_self, true_or, or_true, eq_self, true_and, and_true, Nat.zero_add, Nat.add_zero]); (first | done | omega); done)))
  all_goals (clear hH; subst hκ; delta kid at *; (try dsimp only at *))
  all_goals (try (exact ⟨trivial⟩))
  all_goals (try (exact ⟨by decide⟩))
  all_goals (show IsX _ _ _; refine IsX.val_ ?_; simp only [SV.den, SV.den0, C.den, List.map_cons, List.map_nil, brkR, GT.gt, GE.ge]; (try simp only [*, Bool.or_true, Bool.true_or, Bool.or_false, Bool.false_or, Bool.and_true, Bool.true_and, Bool.and_false, Bool.false_and, Bool.not_true, Bool.not_false, if_true, if_false, Bool.false_eq_true]); (first | done | rfl | (exfalso; simp_all; done) | skip))
def e_rbright {κ : Kp} (hκ : κ = kid) : ESpec Try.prog := fnES [.flat] b_rbright F_rbright hκ fun avs p r hF hp => by
  unfold F_rbright at hF
  split at hF
  case h_2 => cases hF
  rename_i n
  simp only [kid, Option.some.injEq, Prod.mk.injEq] at hF
  obtain ⟨rfl, rfl⟩ := hF
  refine ⟨trivial, fun vs w hR => ?_⟩
  obtain ⟨vs0, rfl, hR⟩ := hR
  have hR' : vs0 = [] := hR
  subst hR'
  exact k_rbright n hp w
end Go.Proofs.Ytbcicjmepojlnaa.Eng
