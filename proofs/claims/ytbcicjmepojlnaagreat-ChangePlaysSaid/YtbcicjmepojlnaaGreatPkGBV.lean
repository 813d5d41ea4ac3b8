/- Texts of this work, laid together: symbolic execution over the model, contracts of the program's functions, what they come to; conditions: as each says. -/
import Derived.Test.YtbcicjmepojlnaaGreatPkGAY
import Derived.Test.YtbcicjmepojlnaaGreatPkGBA
import Derived.Test.YtbcicjmepojlnaaGreatPkGBM
import Derived.Test.YtbcicjmepojlnaaGreatPkGBT
import Derived.Test.YtbcicjmepojlnaaGreatPkGBU
/- Contracts of functions (printed by genx.py of this work): what each hands back; condition: as its 'hside' says. -/
namespace Go.Proofs.YtbcicjmepojlnaaGreat.Eng
open Go Go.RowKit
set_option linter.unusedVariables false
set_option linter.unusedSimpArgs false
theorem b_bright : Bodied Tryz.prog 27 := bodied Tryz.func27 rfl (by decide)
def F_bright : FunX := fun κ avs => match avs with
  | [.val (.c (.v (.int .i64 n)))] => some (κ _ (True), (.val (.c (.v (.bool (κ _ (brkR n)))))))
  | _ => none
set_option maxRecDepth 100000 in
set_option maxHeartbeats 4000000 in
theorem k_bright (n : Int) (hside : True) (w : World) :
    Calls Tryz.prog 27 #[(SV.c (.v (.int .i64 n))).den] w fun e w' => ∃ v H', e = .returned v.den ∧ IsX (.val (.c (.v (.bool (brkR n))))) v H' ∧ HSat w (fun _ => False) H' w' := by
  obtain ⟨κ, hκ⟩ : ∃ κ : Kp, κ = kid := ⟨_, rfl⟩
  have hH : HSat w (fun _ => False) (heapOf [(nilId, .rd none 1 0 [])]) w := by
    subst hκ
    refine HSat.reads fun p hp => ?_
    simp only [List.mem_cons, List.not_mem_nil, or_false] at hp
    rcases hp with rfl
    · exact ⟨_, _, _, _, rfl, nil_holds w⟩
  refine (callsP (n := 9) FTok [] mixed [] Tryz.func27 rfl (by kernel_rfl) #[(SV.c (.v (.int .i64 n))).den] [(0, .c (.v (.int .i64 n)))] _ w rfl [.tmp 2] rfl (by simp) (by subst hκ; simp [SV.den, C.den, kid]) hH (fun v H' => IsX (.val (.c (.v (.bool (κ _ (brkR n)))))) v H') hκ ?_).mono ?_
  rotate_left
  · subst hκ; intro e w' h; exact h
  intro P' hP'
  cbv
  repeat' (first | refine And.intro ?_ ?_ | (intro _; cbv) | (refine tst_mk (fun h => ?_) (fun h => ?_) <;> cbv) | (refine LookX.nil ?_; cbv) | (refine LookX.auto hκ ?_; cbv))
  all_goals (try (show Side _; refine ⟨?_⟩; subst hκ; delta kid at *; first | exact rfl | exact trivial | exact ⟨rfl, rfl, .inl rfl⟩ | ((try dsimp only at *); (try simp only [setTo_len, noS_len, List.length_append, List.length_cons, List.length_nil, List.length_map, and_self, true_or, or_true, eq_self, true_and, and_true, Nat.zero_add, Nat.add_zero]); (first | done | omega); done)))
  all_goals (clear hH; subst hκ; delta kid at *; (try dsimp only at *))
  all_goals (try (exact ⟨trivial⟩))
  all_goals (try (exact ⟨by decide⟩))
  all_goals (show IsX _ _ _; refine IsX.val_ ?_; simp only [SV.den, SV.den0, C.den, List.map_cons, List.map_nil, brkR, GT.gt, GE.ge]; (try simp only [*, Bool.or_true, Bool.true_or, Bool.or_false, Bool.false_or, Bool.and_true, Bool.true_and, Bool.and_false, Bool.false_and, Bool.not_true, Bool.not_false, if_true, if_false, Bool.false_eq_true]); (first | done | rfl | (exfalso; simp_all; done) | skip))
def e_bright {κ : Kp} (hκ : κ = kid) : ESpec Tryz.prog := fnES [.flat] b_bright F_bright hκ fun avs p r hF hp => by
  unfold F_bright at hF
  split at hF
  case h_2 => cases hF
  rename_i n
  simp only [kid, Option.some.injEq, Prod.mk.injEq] at hF
  obtain ⟨rfl, rfl⟩ := hF
  refine ⟨trivial, fun vs w hR => ?_⟩
  obtain ⟨vs0, rfl, hR⟩ := hR
  have hR' : vs0 = [] := hR
  subst hR'
  exact k_bright n hp w
theorem b_bup : Bodied Tryz.prog 47 := bodied Tryz.func47 rfl (by decide)
def F_bup : FunX := fun κ avs => match avs with
  | [.val (.c (.v (.int .i64 n)))] => some (κ _ (True), (.val (.c (.v (.int .i64 (κ _ (upG n)))))))
  | _ => none
set_option maxRecDepth 100000 in
set_option maxHeartbeats 4000000 in
theorem k_bup (n : Int) (hside : True) (w : World) :
    Calls Tryz.prog 47 #[(SV.c (.v (.int .i64 n))).den] w fun e w' => ∃ v H', e = .returned v.den ∧ IsX (.val (.c (.v (.int .i64 (upG n))))) v H' ∧ HSat w (fun _ => False) H' w' := by
  obtain ⟨κ, hκ⟩ : ∃ κ : Kp, κ = kid := ⟨_, rfl⟩
  have hH : HSat w (fun _ => False) (heapOf [(nilId, .rd none 1 0 [])]) w := by
    subst hκ
    refine HSat.reads fun p hp => ?_
    simp only [List.mem_cons, List.not_mem_nil, or_false] at hp
    rcases hp with rfl
    · exact ⟨_, _, _, _, rfl, nil_holds w⟩
  refine (callsP (n := 8) FTok [] mixed [] Tryz.func47 rfl (by kernel_rfl) #[(SV.c (.v (.int .i64 n))).den] [(0, .c (.v (.int .i64 n)))] _ w rfl [.tmp 2] rfl (by simp) (by subst hκ; simp [SV.den, C.den, kid]) hH (fun v H' => IsX (.val (.c (.v (.int .i64 (κ _ (upG n)))))) v H') hκ ?_).mono ?_
  rotate_left
  · subst hκ; intro e w' h; exact h
  intro P' hP'
  cbv
  repeat' (first | refine And.intro ?_ ?_ | (intro _; cbv) | (refine tst_mk (fun h => ?_) (fun h => ?_) <;> cbv) | (refine LookX.nil ?_; cbv) | (refine LookX.auto hκ ?_; cbv))
  all_goals (try (show Side _; refine ⟨?_⟩; subst hκ; delta kid at *; first | exact rfl | exact trivial | exact ⟨rfl, rfl, .inl rfl⟩ | ((try dsimp only at *); (try simp only [setTo_len, noS_len, List.length_append, List.length_cons, List.length_nil, List.length_map, and_self, true_or, or_true, eq_self, true_and, and_true, Nat.zero_add, Nat.add_zero]); (first | done | omega); done)))
  all_goals (clear hH; subst hκ; delta kid at *; (try dsimp only at *))
  all_goals (try (exact ⟨trivial⟩))
  all_goals (try (exact ⟨by decide⟩))
  all_goals (show IsX _ _ _; refine IsX.val_ ?_; simp only [SV.den, SV.den0, C.den, List.map_cons, List.map_nil, upG, GT.gt, GE.ge]; (try simp only [*, Bool.or_true, Bool.true_or, Bool.or_false, Bool.false_or, Bool.and_true, Bool.true_and, Bool.and_false, Bool.false_and, Bool.not_true, Bool.not_false, if_true, if_false, Bool.false_eq_true]); (first | done | rfl | (exfalso; simp_all; done) | skip))
def e_bup {κ : Kp} (hκ : κ = kid) : ESpec Tryz.prog := fnES [.flat] b_bup F_bup hκ fun avs p r hF hp => by
  unfold F_bup at hF
  split at hF
  case h_2 => cases hF
  rename_i n
  simp only [kid, Option.some.injEq, Prod.mk.injEq] at hF
  obtain ⟨rfl, rfl⟩ := hF
  refine ⟨trivial, fun vs w hR => ?_⟩
  obtain ⟨vs0, rfl, hR⟩ := hR
  have hR' : vs0 = [] := hR
  subst hR'
  exact k_bup n hp w
theorem b_bwrong : Bodied Tryz.prog 45 := bodied Tryz.func45 rfl (by decide)
def F_bwrong : FunX := fun κ avs => match avs with
  | [.lst l xl, .val (.c (.v (.int .i64 m))), .val (.c (.v (.int .i64 q)))] => some (κ _ (l.length ≤ 300000), (.val (.c (.v (.int .i64 (κ _ (brkE l m q)))))))
  | _ => none
set_option maxRecDepth 100000 in
set_option maxHeartbeats 4000000 in
theorem k_bwrong (l : List Ar) (m : Int) (q : Int) (Al : Option Addr) (cl : Nat) (hside : l.length ≤ 300000) (w : World) (hl : (Ent.rd Al 6 l.length (encL l)).holds w) :
    Calls Tryz.prog 45 #[.slice Al l.length cl, (SV.c (.v (.int .i64 m))).den, (SV.c (.v (.int .i64 q))).den] w fun e w' => ∃ v H', e = .returned v.den ∧ IsX (.val (.c (.v (.int .i64 (brkE l m q))))) v H' ∧ HSat w (fun _ => False) H' w' := by
  obtain ⟨κ, hκ⟩ : ∃ κ : Kp, κ = kid := ⟨_, rfl⟩
  have hH : HSat w (fun _ => False) (heapOf [(nilId, .rd none 1 0 []), (200000, .rd Al 6 (κ _ l.length) (κ _ (encL l)))]) w := by
    subst hκ
    refine HSat.reads fun p hp => ?_
    simp only [List.mem_cons, List.not_mem_nil, or_false] at hp
    rcases hp with rfl | rfl
    · exact ⟨_, _, _, _, rfl, nil_holds w⟩
    · exact ⟨_, _, _, _, rfl, hl⟩
  refine (callsP (n := 46) FTok [e_right hκ, e_bright hκ, e_bup hκ, e_fits hκ] mixed [] Tryz.func45 rfl (by kernel_rfl) #[.slice Al l.length cl, (SV.c (.v (.int .i64 m))).den, (SV.c (.v (.int .i64 q))).den] [(0, .c (.sl 200000 Al (κ _ l.length) cl)), (1, .c (.v (.int .i64 m))), (2, .c (.v (.int .i64 q)))] _ w rfl [.tmp 6] rfl (by simp) (by subst hκ; simp [SV.den, C.den, kid]) hH (fun v H' => IsX (.val (.c (.v (.int .i64 (κ _ (brkE l m q)))))) v H') hκ ?_).mono ?_
  rotate_left
  · subst hκ; intro e w' h; exact h
  intro P' hP'
  cbv
  repeat' (first | refine And.intro ?_ ?_ | (intro _; cbv) | (refine tst_mk (fun h => ?_) (fun h => ?_) <;> cbv) | (refine LookX.nil ?_; cbv) | (refine LookX.auto hκ ?_; cbv))
  all_goals (try (show Side _; refine ⟨?_⟩; subst hκ; delta kid at *; first | exact rfl | exact trivial | exact ⟨rfl, rfl, .inl rfl⟩ | ((try dsimp only at *); (try simp only [setTo_len, noS_len, List.length_append, List.length_cons, List.length_nil, List.length_map, and_self, true_or, or_true, eq_self, true_and, and_true, Nat.zero_add, Nat.add_zero]); (first | done | omega); done)))
  all_goals (clear hH; subst hκ; delta kid at *; (try dsimp only at *))
  all_goals (try (exact ⟨trivial⟩))
  all_goals (try (exact ⟨by decide⟩))
  all_goals (try simp only [le24] at *)
  all_goals (show IsX _ _ _; refine IsX.val_ ?_; simp only [SV.den, SV.den0, C.den, List.map_cons, List.map_nil, brkE, mayS, GT.gt, GE.ge]; (try simp only [*, Bool.or_true, Bool.true_or, Bool.or_false, Bool.false_or, Bool.and_true, Bool.true_and, Bool.and_false, Bool.false_and, Bool.not_true, Bool.not_false, if_true, if_false, Bool.false_eq_true]); (first | done | rfl | (exfalso; simp_all; done) | skip))
def e_bwrong {κ : Kp} (hκ : κ = kid) : ESpec Tryz.prog := fnES [.list, .flat, .flat] b_bwrong F_bwrong hκ fun avs p r hF hp => by
  unfold F_bwrong at hF
  split at hF
  case h_2 => cases hF
  rename_i l xl m q
  simp only [kid, Option.some.injEq, Prod.mk.injEq] at hF
  obtain ⟨rfl, rfl⟩ := hF
  refine ⟨trivial, fun vs w hR => ?_⟩
  obtain ⟨il, Al, cl, vs0, rfl, rfl, hl, hR⟩ := hR
  obtain ⟨vs1, rfl, hR⟩ := hR
  obtain ⟨vs2, rfl, hR⟩ := hR
  have hR' : vs2 = [] := hR
  subst hR'
  exact k_bwrong l m q Al cl hp w hl
theorem b_bmoved : Bodied Tryz.prog 46 := bodied Tryz.func46 rfl (by decide)
def F_bmoved : FunX := fun κ avs => match avs with
  | [.lst l xl, .val (.c (.v (.int .i64 a))), .val (.c (.v (.int .i64 b)))] => some (κ _ (l.length ≤ 300000), (.alt ((κ _ (brkStay a b))) (xl) (fun x => .c x) ((κ _ (brkMv l a b))) (fun x => .c x)))
  | _ => none
set_option maxRecDepth 100000 in
set_option maxHeartbeats 4000000 in
theorem k_bmoved (l : List Ar) (a : Int) (b : Int) (Al : Option Addr) (cl : Nat) (hside : l.length ≤ 300000) (w : World) (hl : (Ent.rd Al 6 l.length (encL l)).holds w) :
    Calls Tryz.prog 46 #[.slice Al l.length cl, (SV.c (.v (.int .i64 a))).den, (SV.c (.v (.int .i64 b))).den] w fun e w' => ∃ v H', e = .returned v.den ∧ IsX (.alt ((brkStay a b)) (.sl 200000 Al l.length cl) (fun x => .c x) ((brkMv l a b)) (fun x => .c x)) v H' ∧ HSat w (fun _ => False) H' w' := by
  obtain ⟨κ, hκ⟩ : ∃ κ : Kp, κ = kid := ⟨_, rfl⟩
  have hH : HSat w (fun _ => False) (heapOf [(nilId, .rd none 1 0 []), (200000, .rd Al 6 (κ _ l.length) (κ _ (encL l)))]) w := by
    subst hκ
    refine HSat.reads fun p hp => ?_
    simp only [List.mem_cons, List.not_mem_nil, or_false] at hp
    rcases hp with rfl | rfl
    · exact ⟨_, _, _, _, rfl, nil_holds w⟩
    · exact ⟨_, _, _, _, rfl, hl⟩
  refine (callsP (n := 25) FTok [e_put hκ, e_cut hκ] mixed [] Tryz.func46 rfl (by kernel_rfl) #[.slice Al l.length cl, (SV.c (.v (.int .i64 a))).den, (SV.c (.v (.int .i64 b))).den] [(0, .c (.sl 200000 Al (κ _ l.length) cl)), (1, .c (.v (.int .i64 a))), (2, .c (.v (.int .i64 b)))] _ w rfl [.tmp 6] rfl (by simp) (by subst hκ; simp [SV.den, C.den, kid]) hH (fun v H' => IsX (.alt ((κ _ (brkStay a b))) (.sl 200000 Al (κ _ l.length) cl) (fun x => .c x) ((κ _ (brkMv l a b))) (fun x => .c x)) v H') hκ ?_).mono ?_
  rotate_left
  · subst hκ; intro e w' h; exact h
  intro P' hP'
  cbv
  repeat' (first | refine And.intro ?_ ?_ | (intro _; cbv) | (refine tst_mk (fun h => ?_) (fun h => ?_) <;> cbv) | (refine LookX.nil ?_; cbv) | (refine LookX.auto hκ ?_; cbv))
  all_goals (try (show Side _; refine ⟨?_⟩; subst hκ; delta kid at *; first | exact rfl | exact trivial | exact ⟨rfl, rfl, .inl rfl⟩ | ((try dsimp only at *); (try simp only [setTo_len, noS_len, List.length_append, List.length_cons, List.length_nil, List.length_map, and_self, true_or, or_true, eq_self, true_and, and_true, Nat.zero_add, Nat.add_zero]); (first | done | omega); done)))
  all_goals (clear hH; subst hκ; delta kid at *; (try dsimp only at *))
  · exact IsX.new_ (mv_1 (l := l) (by with_reducible assumption)).1 (mv_1 (by with_reducible assumption)).2 rfl rfl
  · exact IsX.new_ (mv_2 (l := l) (by with_reducible assumption) (by with_reducible assumption)).1 (mv_2 (by with_reducible assumption) (by with_reducible assumption)).2 rfl rfl
  · exact IsX.same_ (mv_3 (by with_reducible assumption) (by with_reducible assumption)) rfl
def e_bmoved {κ : Kp} (hκ : κ = kid) : ESpec Tryz.prog := fnES [.list, .flat, .flat] b_bmoved F_bmoved hκ fun avs p r hF hp => by
  unfold F_bmoved at hF
  split at hF
  case h_2 => cases hF
  rename_i l xl a b
  simp only [kid, Option.some.injEq, Prod.mk.injEq] at hF
  obtain ⟨rfl, rfl⟩ := hF
  refine ⟨fun x y h => by simp [SV.den, SV.den0, h], fun vs w hR => ?_⟩
  obtain ⟨il, Al, cl, vs0, rfl, rfl, hl, hR⟩ := hR
  obtain ⟨vs1, rfl, hR⟩ := hR
  obtain ⟨vs2, rfl, hR⟩ := hR
  have hR' : vs2 = [] := hR
  subst hR'
  exact (k_bmoved l a b Al cl hp w hl).mono fun e w' ⟨v, H', h1, h2, h3⟩ => ⟨v, H', h1, h2.swap rfl, h3⟩
theorem b_bmove : Bodied Tryz.prog 17 := bodied Tryz.func17 rfl (by decide)
def F_bmove : FunX := fun κ avs => match avs with
  | [.lst l xl, .val (.c (.v (.int .i64 m))), .val (.agg [.v (.int .i64 c1), .v (.int .i64 c2), .v (.int .i64 c3), .v (.int .i64 c4), .v (.int .i64 c5), .v (.int .i64 c6), .v (.int .i64 c7), .v (.int .i64 c8), .v (.int .i64 c9)])] => some (κ _ (l.length ≤ 300000), (.row 49 6 ((κ _ ((brkL l m (⟨c1, c2, c3, c4, c5, c6, c7, c8, c9⟩ : Cl).a).length))) ((κ _ (encL (brkL l m (⟨c1, c2, c3, c4, c5, c6, c7, c8, c9⟩ : Cl).a)))) (fun x => .tup [.c x, .c (.v (.int .i64 (κ _ (brkV l m (⟨c1, c2, c3, c4, c5, c6, c7, c8, c9⟩ : Cl).a)))), .agg [.v (.int .i64 (κ _ ((brkN l m (⟨c1, c2, c3, c4, c5, c6, c7, c8, c9⟩ : Cl).a).er))), .v (.int .i64 (κ _ ((brkN l m (⟨c1, c2, c3, c4, c5, c6, c7, c8, c9⟩ : Cl).a).v))), .v (.int .i64 (κ _ ((brkN l m (⟨c1, c2, c3, c4, c5, c6, c7, c8, c9⟩ : Cl).a).t.p))), .v (.bool (κ _ ((brkN l m (⟨c1, c2, c3, c4, c5, c6, c7, c8, c9⟩ : Cl).a).t.sh))), .v (.int .i64 (κ _ ((brkN l m (⟨c1, c2, c3, c4, c5, c6, c7, c8, c9⟩ : Cl).a).t.b))), .v (.int .i64 (κ _ ((brkN l m (⟨c1, c2, c3, c4, c5, c6, c7, c8, c9⟩ : Cl).a).t.o)))]])))
  | _ => none
set_option maxRecDepth 100000 in
set_option maxHeartbeats 4000000 in
theorem k_bmove (l : List Ar) (m : Int) (c1 : Int) (c2 : Int) (c3 : Int) (c4 : Int) (c5 : Int) (c6 : Int) (c7 : Int) (c8 : Int) (c9 : Int) (Al : Option Addr) (cl : Nat) (hside : l.length ≤ 300000) (w : World) (hl : (Ent.rd Al 6 l.length (encL l)).holds w) :
    Calls Tryz.prog 17 #[.slice Al l.length cl, (SV.c (.v (.int .i64 m))).den, (SV.agg [.v (.int .i64 c1), .v (.int .i64 c2), .v (.int .i64 c3), .v (.int .i64 c4), .v (.int .i64 c5), .v (.int .i64 c6), .v (.int .i64 c7), .v (.int .i64 c8), .v (.int .i64 c9)]).den] w fun e w' => ∃ v H', e = .returned v.den ∧ IsX (.row 49 6 (((brkL l m (⟨c1, c2, c3, c4, c5, c6, c7, c8, c9⟩ : Cl).a).length)) ((encL (brkL l m (⟨c1, c2, c3, c4, c5, c6, c7, c8, c9⟩ : Cl).a))) (fun x => .tup [.c x, .c (.v (.int .i64 (brkV l m (⟨c1, c2, c3, c4, c5, c6, c7, c8, c9⟩ : Cl).a))), .agg [.v (.int .i64 ((brkN l m (⟨c1, c2, c3, c4, c5, c6, c7, c8, c9⟩ : Cl).a).er)), .v (.int .i64 ((brkN l m (⟨c1, c2, c3, c4, c5, c6, c7, c8, c9⟩ : Cl).a).v)), .v (.int .i64 ((brkN l m (⟨c1, c2, c3, c4, c5, c6, c7, c8, c9⟩ : Cl).a).t.p)), .v (.bool ((brkN l m (⟨c1, c2, c3, c4, c5, c6, c7, c8, c9⟩ : Cl).a).t.sh)), .v (.int .i64 ((brkN l m (⟨c1, c2, c3, c4, c5, c6, c7, c8, c9⟩ : Cl).a).t.b)), .v (.int .i64 ((brkN l m (⟨c1, c2, c3, c4, c5, c6, c7, c8, c9⟩ : Cl).a).t.o))]])) v H' ∧ HSat w (fun _ => False) H' w' := by
  obtain ⟨κ, hκ⟩ : ∃ κ : Kp, κ = kid := ⟨_, rfl⟩
  have hH : HSat w (fun _ => False) (heapOf [(nilId, .rd none 1 0 []), (200000, .rd Al 6 (κ _ l.length) (κ _ (encL l)))]) w := by
    subst hκ
    refine HSat.reads fun p hp => ?_
    simp only [List.mem_cons, List.not_mem_nil, or_false] at hp
    rcases hp with rfl | rfl
    · exact ⟨_, _, _, _, rfl, nil_holds w⟩
    · exact ⟨_, _, _, _, rfl, hl⟩
  refine (callsP (n := 56) FTok [e_bwrong hκ, e_clone hκ, e_bup hκ, e_bmoved hκ, e_kept hκ] mixed [(6, [[], [0], [0, 1], [0, 1], [0, 1, 2, 3], [0, 1, 2, 3], [0, 1], [0], [0, 1, 2, 3, 4, 5, 6, 7], [0, 1, 2, 3, 4, 5, 6, 7], [], [], [], [12], [0, 1, 2, 3, 4, 5, 6, 7, 8, 9, 10, 11, 12, 13], [13], []]), (8, [[], [0], [0, 1], [1, 2], [2], []]), (9, [[], [0], [0], [0, 1, 2], [1, 2, 3], [3], []])] Tryz.func17 rfl (by kernel_rfl) #[.slice Al l.length cl, (SV.c (.v (.int .i64 m))).den, (SV.agg [.v (.int .i64 c1), .v (.int .i64 c2), .v (.int .i64 c3), .v (.int .i64 c4), .v (.int .i64 c5), .v (.int .i64 c6), .v (.int .i64 c7), .v (.int .i64 c8), .v (.int .i64 c9)]).den] [(0, .c (.sl 200000 Al (κ _ l.length) cl)), (1, .c (.v (.int .i64 m))), (2, .agg [.v (.int .i64 c1), .v (.int .i64 c2), .v (.int .i64 c3), .v (.int .i64 c4), .v (.int .i64 c5), .v (.int .i64 c6), .v (.int .i64 c7), .v (.int .i64 c8), .v (.int .i64 c9)])] _ w rfl [.tmp 6, .tmp 7, .cell 8 33] rfl (by simp) (by subst hκ; simp [SV.den, C.den, kid]) hH (fun v H' => IsX (.row 49 6 ((κ _ ((brkL l m (⟨c1, c2, c3, c4, c5, c6, c7, c8, c9⟩ : Cl).a).length))) ((κ _ (encL (brkL l m (⟨c1, c2, c3, c4, c5, c6, c7, c8, c9⟩ : Cl).a)))) (fun x => .tup [.c x, .c (.v (.int .i64 (κ _ (brkV l m (⟨c1, c2, c3, c4, c5, c6, c7, c8, c9⟩ : Cl).a)))), .agg [.v (.int .i64 (κ _ ((brkN l m (⟨c1, c2, c3, c4, c5, c6, c7, c8, c9⟩ : Cl).a).er))), .v (.int .i64 (κ _ ((brkN l m (⟨c1, c2, c3, c4, c5, c6, c7, c8, c9⟩ : Cl).a).v))), .v (.int .i64 (κ _ ((brkN l m (⟨c1, c2, c3, c4, c5, c6, c7, c8, c9⟩ : Cl).a).t.p))), .v (.bool (κ _ ((brkN l m (⟨c1, c2, c3, c4, c5, c6, c7, c8, c9⟩ : Cl).a).t.sh))), .v (.int .i64 (κ _ ((brkN l m (⟨c1, c2, c3, c4, c5, c6, c7, c8, c9⟩ : Cl).a).t.b))), .v (.int .i64 (κ _ ((brkN l m (⟨c1, c2, c3, c4, c5, c6, c7, c8, c9⟩ : Cl).a).t.o)))]])) v H') hκ ?_).mono ?_
  rotate_left
  · subst hκ; intro e w' h; exact h
  intro P' hP'
  cbv
  repeat' (first | refine And.intro ?_ ?_ | (intro _; cbv) | (refine tst_mk (fun h => ?_) (fun h => ?_) <;> cbv) | (refine LookX.nil ?_; cbv) | (refine LookX.auto hκ ?_; cbv))
  all_goals (try (show Side _; refine ⟨?_⟩; subst hκ; delta kid at *; first | exact rfl | exact trivial | exact ⟨rfl, rfl, .inl rfl⟩ | exact ⟨hside, hside⟩ | exact ⟨hside, brkMv_bd _ _ _ hside (by omega)⟩ | ((try dsimp only at *); (try simp only [setTo_len, noS_len, List.length_append, List.length_cons, List.length_nil, List.length_map, and_self, true_or, or_true, eq_self, true_and, and_true, Nat.zero_add, Nat.add_zero]); (first | done | omega); done)))
  all_goals (clear hH; subst hκ; delta kid at *; (try dsimp only at *))
  all_goals (try have hst := (mv_4 (l := l) (by with_reducible assumption : brkStay (upG m) (upG c2) = true)).symm)
  all_goals (show IsX _ _ _; refine IsX.row3 rfl rfl (fun x => ?_) ?_ <;> (try simp only [brkL, brkN, brkV, brkK, errA, okA, noAt, *, Bool.or_true, Bool.true_or, Bool.or_false, Bool.false_or, Bool.and_true, Bool.true_and, Bool.and_false, Bool.false_and, Bool.not_true, Bool.not_false, if_true, if_false, Bool.false_eq_true]) <;> (try rfl))
def e_bmove {κ : Kp} (hκ : κ = kid) : ESpec Tryz.prog := fnES [.list, .flat, .flat] b_bmove F_bmove hκ fun avs p r hF hp => by
  unfold F_bmove at hF
  split at hF
  case h_2 => cases hF
  rename_i l xl m c1 c2 c3 c4 c5 c6 c7 c8 c9
  simp only [kid, Option.some.injEq, Prod.mk.injEq] at hF
  obtain ⟨rfl, rfl⟩ := hF
  refine ⟨fun x y h => by simp [SV.den, SV.den0, h], fun vs w hR => ?_⟩
  obtain ⟨il, Al, cl, vs0, rfl, rfl, hl, hR⟩ := hR
  obtain ⟨vs1, rfl, hR⟩ := hR
  obtain ⟨vs2, rfl, hR⟩ := hR
  have hR' : vs2 = [] := hR
  subst hR'
  exact k_bmove l m c1 c2 c3 c4 c5 c6 c7 c8 c9 Al cl hp w hl
end Go.Proofs.YtbcicjmepojlnaaGreat.Eng
/- A space's changes: the pure forms; no condition but those typed. -/
namespace Go.Proofs.YtbcicjmepojlnaaGreat.Eng
open Go Go.RowKit
set_option autoImplicit false
set_option linter.unusedSimpArgs false
set_option linter.unusedVariables false
def spR (l : List Ar) (b : Int) : Bool := mayS l && brkR b
def doL (l : List Ar) (b : Int) (c : Cl) : List Ar := if (!spR l b) = true then l else if (c.k == 0) = true then mapL l c else if (c.k == 1) = true then unL l c else if (c.k == 2) = true then protL l c else if (c.k == 3) = true then remL l c else if (c.k == 4) = true then brkL l b c.a else l
def doB (l : List Ar) (b : Int) (c : Cl) : Int := if (!spR l b) = true then b else if (c.k == 0) = true then b else if (c.k == 1) = true then b else if (c.k == 2) = true then b else if (c.k == 3) = true then b else if (c.k == 4) = true then brkV l b c.a else b
def doN (l : List Ar) (b : Int) (c : Cl) : An := if (!spR l b) = true then errA 1 else if (c.k == 0) = true then mapN l c else if (c.k == 1) = true then unN l c else if (c.k == 2) = true then protN l c else if (c.k == 3) = true then remN l c else if (c.k == 4) = true then brkN l b c.a else if (c.k == 5) = true then faultN l c else errA 1
theorem IsX.rowS {mk : C → SV} {r r' : List Ar} {i c2 : Nat} {A2 : Option Addr} {v k2 : SV} {k : C} {H' : Heap} (hv : v = .tup [.agg [.sl i A2 r'.length c2, k], k2]) (hH : H' i = some (.row A2 c2 49 6 r'.length (encL r'))) (hm : ∀ x, mk x = .tup [.agg [x, k], k2]) (h : r' = r) : IsX (.row 49 6 r.length (encL r) mk) v H' :=
  IsX.row_ h (hv.trans (hm _).symm) hH
end Go.Proofs.YtbcicjmepojlnaaGreat.Eng
/- The break: moved twice, back, step by step; no condition but those typed. -/
namespace Go.Proofs.YtbcicjmepojlnaaGreat.Eng
open Go Go.RowKit
set_option autoImplicit false
set_option linter.unusedSimpArgs false
set_option linter.unusedVariables false
set_option linter.unusedSectionVars false
theorem kept_er0 {now : List Ar} {v : Int} (h : (keptN now v).er = 0) : now.length ≤ 24 ∧ keptN now v = okA v ∧ ∀ l, keptL l now = now := by
  cases hd : decide ((24 : Int) < (now.length : Int)) with
  | true => rw [(kept_no (was := []) hd).2] at h; cases h
  | false =>
    have := of_decide_eq_false hd
    exact ⟨by omega, (kept_yes (was := []) hd).2, fun l => (kept_yes (v := 0) (was := l) hd).1⟩
structure BrkOk (l : List Ar) (m w : Int) : Prop where
  may : mayS l = true
  br : BrOk m
  c : (w = 0 ∧ brkN l m w = okA m ∧ brkL l m w = l ∧ brkV l m w = m) ∨ (w ≠ 0 ∧ BrOk w ∧ (upG m < upG w → fitsL l (upG m) (w64 (upG w - upG m)) = true) ∧ (brkK l m w).length ≤ 24 ∧ brkN l m w = okA w ∧ brkL l m w = brkK l m w ∧ brkV l m w = w)
theorem brk_yes {l : List Ar} {m w : Int} (h : (brkN l m w).er = 0) : BrkOk l m w := by
  have he : brkE l m w = 0 := by
    unfold brkN at h
    by_cases hb : (brkE l m w != 0) = true
    · rw [if_pos hb] at h; exact h
    · simpa using hb
  have h0 : mayS l = true ∧ brkR m = true := by
    unfold brkE at he
    cases h1 : mayS l with
    | false => rw [h1] at he; cases he
    | true =>
      cases h2 : brkR m with
      | false => rw [h1, h2] at he; cases he
      | true => exact ⟨rfl, rfl⟩
  obtain ⟨hm, hb⟩ := h0
  refine ⟨hm, (br_iff m).1 hb, ?_⟩
  cases hw : (w == 0) with
  | true =>
    obtain ⟨_, k1, k2, k3, _⟩ := bk_0 hm hb hw
    exact .inl ⟨beq_yes hw, k1, k2, k3⟩
  | false =>
    have h1 : brkR w = true ∧ (upG m < upG w → fitsL l (upG m) (w64 (upG w - upG m)) = true) := by
      unfold brkE at he
      rw [hm, hb, hw] at he
      cases h2 : brkR w with
      | false => rw [h2] at he; cases he
      | true =>
        refine ⟨rfl, fun hlt => ?_⟩
        rw [h2, decide_eq_true hlt] at he
        cases h3 : fitsL l (upG m) (w64 (upG w - upG m)) with
        | true => rfl
        | false => rw [h3] at he; cases he
    obtain ⟨g1, g2, g3⟩ := bk_go hm hb hw he
    rw [g1] at h
    obtain ⟨q1, q2, q3⟩ := kept_er0 h
    rw [q2] at g1 g3
    rw [q3] at g2
    exact .inr ⟨beq_no hw, (br_iff w).1 h1.1, h1.2, q1, g1, g2, g3⟩
theorem mv_rt {l : List Ar} (hl : Rt l) {m w : Int} (hm : BrOk m) (hw : BrOk w) : Rt (brkK l m w) := by
  obtain ⟨u1, u2, u3⟩ := up_end hm
  obtain ⟨v1, v2, v3⟩ := up_end hw
  unfold brkK brkMv
  rw [u1, v1]
  split
  · rename_i h
    have h := of_decide_eq_true h
    exact (put_spec hl (brk_fo u2 (by omega) (by omega))).1
  · split
    · exact (cut_spec hl (by unfold In64; omega) (by unfold In64; omega)).1
    · exact hl
theorem brk_may {l : List Ar} {m w : Int} (h : (brkN l m w).er = 0) : mayS (brkL l m w) = true ∧ BrOk (brkV l m w) := by
  have k := brk_yes h
  obtain ⟨hrt, h24⟩ := mayS_rt k.may
  rcases k.c with ⟨h1, h2, h3, h4⟩ | ⟨h1, h2, h3, h4, h5, h6, h7⟩
  · rw [h3, h4]
    exact ⟨k.may, k.br⟩
  · rw [h6, h7]
    exact ⟨rt_mayS (mv_rt hrt k.br h2) h4, h2⟩
/-! ### Step by step -/
end Go.Proofs.YtbcicjmepojlnaaGreat.Eng
/- Remap: what came about, page by page; no condition but those typed. -/
namespace Go.Proofs.YtbcicjmepojlnaaGreat.Eng
open Go Go.RowKit
set_option autoImplicit false
set_option linter.unusedSimpArgs false
set_option linter.unusedVariables false
set_option linter.unusedSectionVars false
section
variable {l : List Ar} {lo hi : Int} (k : FoundOk l lo hi)
include k
theorem old_se : (oldA l lo hi).s = lo ∧ (oldA l lo hi).e = hi := by unfold oldA; rw [fd_part k]; exact ⟨rfl, rfl⟩
theorem old_ext (x : Int) : ext (oldA l lo hi) x = ext (findL l lo) x := by
  obtain ⟨h1, h2, h3, h4⟩ := fd_mem k
  have r1 := k.rg.lo; have r2 := k.rg.hi; have r3 := k.rg.lt
  unfold oldA
  rw [fd_part k]
  unfold ext offP
  show (⟨(findL l lo).p, (findL l lo).sh, (findL l lo).b, if (findL l lo).b = 0 then 0 else offA (findL l lo) lo + x - lo⟩ : At) = _
  rw [offP_eq h4 (by omega) (by omega)]
  unfold offP
  congr 1
  split
  · rfl
  · omega
theorem has_old {x : Int} (h1 : lo ≤ x) (h2 : x < hi) : Has l x (ext (oldA l lo hi) x) := by
  obtain ⟨g1, g2, g3, g4⟩ := fd_mem k
  have := k.en
  exact ⟨_, g1, ⟨by omega, by omega⟩, (old_ext k x).symm⟩
end
theorem mv_ext (o : Ar) (p n x : Int) : ext (mvA o p n) x = ext o (x - p + o.s) := by
  unfold ext offP mvA
  show (⟨o.p, o.sh, o.b, if o.b = 0 then 0 else o.o + x - p⟩ : At) = ⟨o.p, o.sh, o.b, if o.b = 0 then 0 else o.o + (x - p + o.s) - o.s⟩
  congr 1
  split
  · rfl
  · omega
structure MvCase (l : List Ar) (c : Cl) (L : List Ar) (N : An) (p : Int) (st : Bool) : Prop where
  ok : MvOk l (rmLo c) (rmHi c) p (sizeV c.w)
  n : N = okA p
  l : L = mvS l st (rmLo c) (rmHi c) (rmO l c) p (sizeV c.w)
  le : L.length ≤ 24
structure ShCase (l : List Ar) (c : Cl) (L : List Ar) (N : An) : Prop where
  sz : sizeV c.w ≤ rmHi c - rmLo c
  n : N = okA (rmLo c)
  l : L = cutL l (rmLo c + sizeV c.w) (rmHi c)
  le : L.length ≤ 24
structure GrCase (l : List Ar) (c : Cl) (L : List Ar) (N : An) : Prop where
  sz : rmHi c - rmLo c < sizeV c.w
  rg : RgOk (rmLo c) (rmLo c + sizeV c.w)
  fo : Fo (growA (rmO l c) (rmLo c) (sizeV c.w))
  fr : FreeR l (rmHi c) (rmLo c + sizeV c.w)
  n : N = okA (rmLo c)
  l : L = putL l (growA (rmO l c) (rmLo c) (sizeV c.w))
  le : L.length ≤ 24
theorem ka_case {l : List Ar} {c : Cl} (h0 : rmE l c = 0) (hl : longK (rmO l c).b (rmO l c).o (sizeV c.w) = false) (h : (kaN l c.f (rmLo c) (rmHi c) (sizeV c.w) (rmO l c)).er = 0) :
    ∃ p st, MvCase l c (kaL l c.f (rmLo c) (rmHi c) (sizeV c.w) (rmO l c)) (kaN l c.f (rmLo c) (rmHi c) (sizeV c.w) (rmO l c)) p st := by
  have hs := rm_sz h0
  obtain ⟨p1, p2⟩ := place0 (rm_ok0 h0).1 hs
  unfold kaN at h ⊢
  unfold kaL
  by_cases hp : (placeE l 0 (sizeV c.w) 0 != 0) = true
  · rw [if_pos hp] at h
    have h : placeE l 0 (sizeV c.w) 0 = 0 := h
    rw [h] at hp
    cases hp
  · rw [if_neg hp] at h ⊢
    rw [if_neg hp]
    have hd : decide (chooseL l 65536 2097152 (sizeV c.w) true < 0) = false := by
      cases hb : decide (chooseL l 65536 2097152 (sizeV c.w) true < 0) with
      | false => rfl
      | true => rw [p1 hb] at hp; exact absurd rfl hp
    obtain ⟨_, _, hrg⟩ := p2 hd
    obtain ⟨q1, q2, q3⟩ := kept_er0 h
    exact ⟨_, bitB c.f 32, mv_fo h0 hrg hl, q2, q3 l, by rw [q3 l]; exact q1⟩
theorem grow_fo {l : List Ar} {c : Cl} (h0 : rmE l c = 0) (hr : RgOk (rmLo c) (rmLo c + sizeV c.w)) (hl : longK (rmO l c).b (rmO l c).o (sizeV c.w) = false) : Fo (growA (rmO l c) (rmLo c) (sizeV c.w)) ∧ growA (rmO l c) (rmLo c) (sizeV c.w) = mvA (rmO l c) (rmLo c) (sizeV c.w) := by
  have k := rm_found h0
  have e : (rmO l c).s = rmLo c := (old_se k).1
  have e2 : growA (rmO l c) (rmLo c) (sizeV c.w) = mvA (rmO l c) (rmLo c) (sizeV c.w) := by unfold growA mvA; rw [e]
  rw [e2]
  exact ⟨(mv_fo h0 hr hl).fo, rfl⟩
theorem grow_case {l : List Ar} {c : Cl} (h0 : rmE l c = 0) (hgt : ¬ sizeV c.w ≤ rmHi c - rmLo c) (hg : growB l (rmLo c) (rmHi c) (sizeV c.w) (rmW l c).e = true) : RgOk (rmLo c) (rmLo c + sizeV c.w) ∧ FreeR l (rmHi c) (rmLo c + sizeV c.w) := by
  have k := rm_rg h0
  have h1 := k.lo; have h2 := k.hi; have h3 := k.lt; have h4 := k.z; have h5 := k.z2
  have hs := rm_sz h0
  have s1 := hs.lo; have s2 := hs.hi; have s3 := hs.z
  unfold growB at hg
  rw [Bool.and_eq_true, (grow_is h0 hgt).2] at hg
  have f := (fits_iff (rm_found h0).rt (by unfold In64; omega) (by unfold In64; omega)).1 hg.2
  have fr := f.2.2.2.2
  rw [show rmHi c + (sizeV c.w - (rmHi c - rmLo c)) = rmLo c + sizeV c.w by omega] at fr
  exact ⟨⟨h1, by omega, by omega, h4, by omega⟩, fr⟩
theorem rem_cases {l : List Ar} {c : Cl} (h : (remN l c).er = 0) : rmE l c = 0 ∧ ((∃ p st, MvCase l c (remL l c) (remN l c) p st) ∨ ShCase l c (remL l c) (remN l c) ∨ GrCase l c (remL l c) (remN l c)) := by
  have h0 : rmE l c = 0 := by
    unfold remN at h
    by_cases hb : (rmE l c != 0) = true
    · rw [if_pos hb] at h; exact h
    · simpa using hb
  refine ⟨h0, ?_⟩
  obtain ⟨g1, g2⟩ := rm_go h0
  rw [g1] at h ⊢
  rw [g2]
  have hs := rm_sz h0
  unfold remM at h ⊢
  unfold remK
  by_cases b1 : bitB c.f 1 = true
  · rw [if_pos b1] at h ⊢
    rw [if_pos b1]
    left
    unfold kfN at h ⊢
    unfold kfL
    by_cases he : (kfE c (rmLo c) (rmHi c) (sizeV c.w) (rmO l c) != 0) = true
    · rw [if_pos he] at h
      have h : kfE c (rmLo c) (rmHi c) (sizeV c.w) (rmO l c) = 0 := h
      rw [h] at he
      cases he
    · rw [if_neg he] at h ⊢
      rw [if_neg he]
      have he : kfE c (rmLo c) (rmHi c) (sizeV c.w) (rmO l c) = 0 := by simpa using he
      have hk : rangeE c.to c.w = 0 ∧ longK (rmO l c).b (rmO l c).o (sizeV c.w) = false := by
        unfold kfE at he
        by_cases k1 : rangeE c.to c.w = 0
        · refine ⟨k1, ?_⟩
          rw [k1, if_neg (by simp)] at he
          by_cases k2 : (decide (rangeLo c.to c.w < rmHi c) && decide (rangeHi c.to c.w > rmLo c)) = true
          · rw [if_pos k2] at he; cases he
          · rw [if_neg k2] at he
            cases hl : longK (rmO l c).b (rmO l c).o (sizeV c.w) with
            | false => rfl
            | true => rw [hl] at he; cases he
        · rw [if_pos (by simpa using k1)] at he; exact absurd he k1
      obtain ⟨r1, r2, r3, r4⟩ := range_ok hk.1
      obtain ⟨q1, q2, q3⟩ := kept_er0 h
      have rg : RgOk (rangeLo c.to c.w) (rangeLo c.to c.w + sizeV c.w) := by rw [r3] at r1; rw [r2] at r1 ⊢; exact r1
      exact ⟨rangeLo c.to c.w, bitB c.f 32, mv_fo h0 rg hk.2, q2, q3 l, by rw [q3 l]; exact q1⟩
  · rw [if_neg b1] at h ⊢
    rw [if_neg b1]
    by_cases b2 : bitB c.f 32 = true
    · rw [if_pos b2] at h ⊢
      rw [if_pos b2]
      left
      exact ka_case h0 (long_dont h0 b2) h
    · rw [if_neg b2] at h ⊢
      rw [if_neg b2]
      rw [rm_diff h0] at h ⊢
      by_cases b3 : sizeV c.w ≤ rmHi c - rmLo c
      · rw [if_pos (decide_eq_true b3)] at h ⊢
        rw [if_pos (decide_eq_true b3)]
        right; left
        obtain ⟨q1, q2, q3⟩ := kept_er0 h
        have k := rm_rg h0
        have h1 := k.lo; have h2 := k.hi; have h3 := k.lt
        have s1 := hs.lo
        have e : w64 (rmLo c + sizeV c.w) = rmLo c + sizeV c.w := w64_id (by unfold In64; omega)
        rw [e] at q1 q2 ⊢
        exact ⟨b3, q2, by have := q3 l; rw [e] at this; exact this, by have := q3 l; rw [e] at this; rw [this]; exact q1⟩
      · rw [if_neg (by simpa using b3)] at h ⊢
        rw [if_neg (by simpa using b3)]
        unfold kgN at h ⊢
        unfold kgL
        cases hl : longK (rmO l c).b (rmO l c).o (sizeV c.w) with
        | true => rw [hl, if_pos rfl] at h; cases h
        | false =>
          simp only [hl, Bool.false_eq_true, if_false] at h ⊢
          by_cases hg : growB l (rmLo c) (rmHi c) (sizeV c.w) (rmW l c).e = true
          · rw [if_pos hg] at h ⊢
            rw [if_pos hg]
            right; right
            obtain ⟨q1, q2, q3⟩ := kept_er0 h
            obtain ⟨rg, fr⟩ := grow_case h0 b3 hg
            exact ⟨by omega, rg, (grow_fo h0 rg hl).1, fr, q2, q3 l, by rw [q3 l]; exact q1⟩
          · rw [if_neg hg] at h ⊢
            rw [if_neg hg]
            by_cases b4 : bitB c.f 16 = true
            · rw [if_pos b4] at h ⊢
              rw [if_pos b4]
              left
              exact ka_case h0 hl h
            · rw [if_neg b4] at h
              cases h
theorem rem_pages {l : List Ar} {c : Cl} (h : (remN l c).er = 0) : rmE l c = 0 ∧ RgOk (remN l c).v ((remN l c).v + sizeV c.w) ∧ mayS (remL l c) = true ∧
    (∀ x, x % 4096 = 0 → (remN l c).v ≤ x → x < (remN l c).v + sizeV c.w → ∃ t, Has (remL l c) x t ∧ (x - (remN l c).v < rmHi c - rmLo c → Has l (x - (remN l c).v + rmLo c) t)) ∧
    ∀ x t, x % 4096 = 0 → ¬ ((remN l c).v ≤ x ∧ x < (remN l c).v + sizeV c.w) → ¬ (rmLo c ≤ x ∧ x < rmHi c) → (Has (remL l c) x t ↔ Has l x t) := by
  obtain ⟨h0, hc⟩ := rem_cases h
  have k := rm_found h0
  have kr : RgOk (rmLo c) (rmHi c) := k.rg
  have h1 := kr.lo; have h2 := kr.hi; have h3 := kr.lt; have h4 := kr.z; have h5 := kr.z2
  have hs := rm_sz h0
  have s1 := hs.lo; have s2 := hs.hi; have s3 := hs.z
  refine ⟨h0, ?_⟩
  rcases hc with ⟨p, st, ok, en, el, le⟩ | ⟨sz, en, el, le⟩ | ⟨sz, rg, gf, fr, en, el, le⟩
  · have hl' : Rt (if st = true then l else cutL l (rmLo c) (rmHi c)) ∧ ∀ x t, x % 4096 = 0 → (Has (if st = true then l else cutL l (rmLo c) (rmHi c)) x t ↔ Has l x t ∧ (st = false → ¬ Touch x (rmLo c) (rmHi c))) := by
      cases st with
      | true =>
        rw [if_pos rfl]
        exact ⟨k.rt, fun x t hx => ⟨fun h => ⟨h, fun hh => by cases hh⟩, fun h => h.1⟩⟩
      | false =>
        rw [if_neg (by simp)]
        obtain ⟨c1, c2⟩ := cut_spec k.rt (lo := rmLo c) (hi := rmHi c) (by unfold In64; omega) (by unfold In64; omega)
        exact ⟨c1, fun x t hx => (c2 x t hx).trans ⟨fun h => ⟨h.1, fun _ => h.2⟩, fun h => ⟨h.1, h.2 rfl⟩⟩⟩
    obtain ⟨p1, p2⟩ := put_spec hl'.1 ok.fo
    have ev : (remN l c).v = p := by rw [en]; rfl
    have eL : remL l c = putL (if st = true then l else cutL l (rmLo c) (rmHi c)) (mvA (rmO l c) p (sizeV c.w)) := el
    have we : w64 (p + sizeV c.w) = p + sizeV c.w := mv_w ok
    have hin : ∀ x, inA (mvA (rmO l c) p (sizeV c.w)) x ↔ p ≤ x ∧ x < p + sizeV c.w := fun x => by
      unfold inA mvA
      show p ≤ x ∧ x < w64 (p + sizeV c.w) ↔ _
      rw [we]
    rw [ev, eL]
    refine ⟨ok.rg, rt_mayS p1 (by rw [← eL]; exact le), fun x hx g1 g2 => ⟨ext (mvA (rmO l c) p (sizeV c.w)) x, (p2 x _ hx).2 (.inl ⟨(hin x).2 ⟨g1, g2⟩, rfl⟩), fun hlt => ?_⟩, fun x t hx g1 g2 => ?_⟩
    · rw [mv_ext, show (rmO l c).s = rmLo c from (old_se k).1]
      exact has_old k (by omega) (by omega)
    · rw [p2 x t hx, hin, hl'.2 x t hx]
      have hnt : ¬ Touch x (rmLo c) (rmHi c) := fun ht => g2 ⟨by have := ht.2.1; omega, ht.2.2⟩
      exact ⟨fun hh => hh.elim (fun h => absurd h.1 g1) fun h => h.1.1, fun hh => .inr ⟨⟨hh, fun _ => hnt⟩, g1⟩⟩
  · have ev : (remN l c).v = rmLo c := by rw [en]; rfl
    obtain ⟨c1, c2⟩ := cut_spec k.rt (lo := rmLo c + sizeV c.w) (hi := rmHi c) (by unfold In64; omega) (by unfold In64; omega)
    rw [ev]
    refine ⟨⟨h1, by omega, by omega, h4, by omega⟩, ?_, fun x hx g1 g2 => ⟨ext (rmO l c) x, ?_, fun hlt => ?_⟩, fun x t hx g1 g2 => ?_⟩
    · rw [el]; exact rt_mayS c1 (by rw [← el]; exact le)
    · rw [el, c2 x _ hx]
      exact ⟨has_old k g1 (by omega), fun ht => by have := ht.2.1; omega⟩
    · rw [show x - rmLo c + rmLo c = x by omega]
      exact has_old k g1 (by omega)
    · rw [el, c2 x t hx]
      exact ⟨fun hh => hh.1, fun hh => ⟨hh, fun ht => g2 ⟨by have := ht.2.1; omega, ht.2.2⟩⟩⟩
  · have ev : (remN l c).v = rmLo c := by rw [en]; rfl
    obtain ⟨p1, p2⟩ := put_spec k.rt gf
    have eo : (rmO l c).s = rmLo c := (old_se k).1
    have eg : growA (rmO l c) (rmLo c) (sizeV c.w) = mvA (rmO l c) (rmLo c) (sizeV c.w) := by unfold growA mvA; rw [eo]
    have we : w64 (rmLo c + sizeV c.w) = rmLo c + sizeV c.w := w64_id (by unfold In64; omega)
    have hin : ∀ x, inA (growA (rmO l c) (rmLo c) (sizeV c.w)) x ↔ rmLo c ≤ x ∧ x < rmLo c + sizeV c.w := fun x => by
      rw [eg]
      unfold inA mvA
      show rmLo c ≤ x ∧ x < w64 (rmLo c + sizeV c.w) ↔ _
      rw [we]
    rw [ev]
    refine ⟨rg, ?_, fun x hx g1 g2 => ⟨ext (growA (rmO l c) (rmLo c) (sizeV c.w)) x, ?_, fun hlt => ?_⟩, fun x t hx g1 g2 => ?_⟩
    · rw [el]; exact rt_mayS p1 (by rw [← el]; exact le)
    · rw [el]; exact (p2 x _ hx).2 (.inl ⟨(hin x).2 ⟨g1, g2⟩, rfl⟩)
    · rw [eg, mv_ext, eo]
      exact has_old k (by omega) (by omega)
    · rw [el, p2 x t hx, hin]
      exact ⟨fun hh => hh.elim (fun h => absurd h.1 g1) fun h => h.1, fun hh => .inr ⟨hh, g1⟩⟩
end Go.Proofs.YtbcicjmepojlnaaGreat.Eng
/- Calls one behind the other: the pure forms; no condition but those typed. -/
namespace Go.Proofs.YtbcicjmepojlnaaGreat.Eng
open Go Go.RowKit
set_option autoImplicit false
set_option linter.unusedSimpArgs false
set_option linter.unusedVariables false
set_option linter.unusedSectionVars false
abbrev Sp := List Ar × Int
def doS (s : Sp) (c : Cl) : Sp := (doL s.1 s.2 c, doB s.1 s.2 c)
def plS : Sp → List Cl → Sp
  | s, [] => s
  | s, c :: r => plS (doS s c) r
def plA : Sp → List Cl → List An
  | s, [] => []
  | s, c :: r => doN s.1 s.2 c :: plA (doS s c) r
theorem plS_app : ∀ (l k : List Cl) (s : Sp), plS s (l ++ k) = plS (plS s l) k
  | [], k, s => rfl
  | c :: r, k, s => plS_app r k (doS s c)
theorem plA_app : ∀ (l k : List Cl) (s : Sp), plA s (l ++ k) = plA s l ++ plA (plS s l) k
  | [], k, s => rfl
  | c :: r, k, s => congrArg (doN s.1 s.2 c :: ·) (plA_app r k (doS s c))
theorem plA_len : ∀ (l : List Cl) (s : Sp), (plA s l).length = l.length
  | [], s => rfl
  | c :: r, s => congrArg (· + 1) (plA_len r (doS s c))
def encCl (c : Cl) : List C := [.v (.int .i64 c.k), .v (.int .i64 c.a), .v (.int .i64 c.n), .v (.int .i64 c.w), .v (.int .i64 c.to), .v (.int .i64 c.p), .v (.int .i64 c.f), .v (.int .i64 c.b), .v (.int .i64 c.o)]
def encCs (l : List Cl) : List C := l.flatMap encCl
def encAn (a : An) : List C := [.v (.int .i64 a.er), .v (.int .i64 a.v), .v (.int .i64 a.t.p), .v (.bool a.t.sh), .v (.int .i64 a.t.b), .v (.int .i64 a.t.o)]
def encAs (l : List An) : List C := l.flatMap encAn
theorem encCl_inj (x y : Cl) (h : encCl x = encCl y) : x = y := by
  obtain ⟨_, _, _, _, _, _, _, _, _⟩ := x
  obtain ⟨_, _, _, _, _, _, _, _, _⟩ := y
  unfold encCl at h
  simp at h
  simp [h]
theorem encCs_inj : ∀ l l' : List Cl, encCs l = encCs l' → l = l' := enc_inj (z := 9) (fun _ => rfl) (by decide) encCl_inj
def cl0 : Cl := ⟨0, 0, 0, 0, 0, 0, 0, 0, 0⟩
def nthCl (l : List Cl) (i : Nat) : Cl := l.getD i cl0
theorem nthCl_get {l : List Cl} {i : Nat} (h : i < l.length) : l[i]? = some (nthCl l i) := by
  unfold nthCl
  rw [List.getD_eq_getElem?_getD, List.getElem?_eq_getElem h]
  rfl
theorem cl_next {l : List Cl} {i : Nat} (h : i < l.length) : l.take (i + 1) = l.take i ++ [nthCl l i] := by
  rw [List.take_add_one, nthCl_get h]
  rfl
theorem plS_next {l : List Cl} {i : Nat} (h : i < l.length) (s : Sp) : plS s (l.take (i + 1)) = doS (plS s (l.take i)) (nthCl l i) := by
  rw [cl_next h, plS_app]
  rfl
theorem plA_next {l : List Cl} {i : Nat} (h : i < l.length) (s : Sp) : plA s (l.take (i + 1)) = plA s (l.take i) ++ [doN (plS s (l.take i)).1 (plS s (l.take i)).2 (nthCl l i)] := by
  rw [cl_next h, plA_app]
  rfl
end Go.Proofs.YtbcicjmepojlnaaGreat.Eng
/- Remap: a range that stays; an area there and back; no condition but those typed. -/
namespace Go.Proofs.YtbcicjmepojlnaaGreat.Eng
open Go Go.RowKit
set_option autoImplicit false
set_option linter.unusedSimpArgs false
set_option linter.unusedVariables false
set_option linter.unusedSectionVars false
/-! ### There and back -/
end Go.Proofs.YtbcicjmepojlnaaGreat.Eng
/- Remap: what its laws ask; no condition but those typed. -/
namespace Go.Proofs.YtbcicjmepojlnaaGreat.Eng
open Go Go.RowKit
set_option autoImplicit false
set_option linter.unusedSimpArgs false
set_option linter.unusedVariables false
theorem ka_self {l : List Ar} {f lo hi n : Int} {o : Ar} (h : ((kaN l f lo hi n o).er != 0) = true) : kaL l f lo hi n o = l := by
  unfold kaN at h
  unfold kaL
  by_cases hp : (placeE l 0 n 0 != 0) = true
  · rw [if_pos hp]
  · rw [if_neg hp] at h ⊢
    exact keptN_er h
theorem rem_self {l : List Ar} {c : Cl} (h : ((remN l c).er != 0) = true) : remL l c = l := by
  unfold remN at h
  unfold remL
  by_cases h0 : (rmE l c != 0) = true
  · rw [if_pos h0]
  · rw [if_neg h0] at h ⊢
    unfold remM at h
    unfold remK
    by_cases b1 : bitB c.f 1 = true
    · rw [if_pos b1] at h ⊢
      unfold kfN at h
      unfold kfL
      by_cases hk : (kfE c (rmLo c) (rmHi c) (sizeV c.w) (rmO l c) != 0) = true
      · rw [if_pos hk]
      · rw [if_neg hk] at h ⊢
        exact keptN_er h
    · rw [if_neg b1] at h ⊢
      by_cases b2 : bitB c.f 32 = true
      · rw [if_pos b2] at h ⊢
        exact ka_self h
      · rw [if_neg b2] at h ⊢
        by_cases b3 : decide (sizeV c.w ≤ w64 (rmHi c - rmLo c)) = true
        · rw [if_pos b3] at h ⊢
          exact keptN_er h
        · rw [if_neg b3] at h ⊢
          unfold kgN at h
          unfold kgL
          by_cases hl : longK (rmO l c).b (rmO l c).o (sizeV c.w) = true
          · rw [if_pos hl]
          · rw [if_neg hl] at h ⊢
            by_cases hg : growB l (rmLo c) (rmHi c) (sizeV c.w) (rmW l c).e = true
            · rw [if_pos hg] at h ⊢
              exact keptN_er h
            · rw [if_neg hg] at h ⊢
              by_cases b4 : bitB c.f 16 = true
              · rw [if_pos b4] at h ⊢
                exact ka_self h
              · rw [if_neg b4]
end Go.Proofs.YtbcicjmepojlnaaGreat.Eng
/- A right space stays right; no condition but those typed. -/
namespace Go.Proofs.YtbcicjmepojlnaaGreat.Eng
open Go Go.RowKit
set_option autoImplicit false
set_option linter.unusedSimpArgs false
set_option linter.unusedVariables false
set_option linter.unusedSectionVars false
theorem er_cases (x : An) : x.er = 0 ∨ (x.er != 0) = true := by
  by_cases h : x.er = 0
  · exact .inl h
  · exact .inr (by simpa using h)
theorem map_keep {l : List Ar} {c : Cl} (hm : mayS l = true) (ha : In64 c.a) (hf : In64 c.f) : mayS (mapL l c) = true := by
  rcases er_cases (mapN l c) with h | h
  · exact map_may hm (map_yes hm ha hf h)
  · rw [map_self h]; exact hm
theorem pro_keep {l : List Ar} {c : Cl} (hm : mayS l = true) : mayS (protL l c) = true := by
  rcases er_cases (protN l c) with h | h
  · exact (pro_rt hm h).1
  · rw [pro_stay h]; exact hm
theorem rem_keep {l : List Ar} {c : Cl} (hm : mayS l = true) : mayS (remL l c) = true := by
  rcases er_cases (remN l c) with h | h
  · exact (rem_pages h).2.2.1
  · rw [rem_self h]; exact hm
theorem brk_keep {l : List Ar} {m w : Int} (hm : mayS l = true) (hb : brkR m = true) : mayS (brkL l m w) = true ∧ brkR (brkV l m w) = true := by
  rcases er_cases (brkN l m w) with h | h
  · have := brk_may h
    exact ⟨this.1, (br_iff _).2 this.2⟩
  · rw [(brk_self h).1, (brk_self h).2]; exact ⟨hm, hb⟩
theorem un_keep {l : List Ar} {c : Cl} (hm : mayS l = true) : mayS (unL l c) = true := by
  rcases er_cases (unN l c) with h | h
  · have he : (rangeE c.a c.n != 0) = false := by
      cases hb : (rangeE c.a c.n != 0) with
      | false => rfl
      | true =>
        have := (un_bad hm hb).2.2
        rw [h] at this
        cases this
    obtain ⟨g1, g2, _⟩ := un_ok hm he
    rw [g1] at h
    obtain ⟨k1, _, k3⟩ := kept_er0 h
    rw [g2, k3]
    obtain ⟨r1, r2, r3⟩ := un_rng he
    exact rt_mayS (cut_spec (mayS_rt hm).1 ⟨by omega, by omega⟩ ⟨by omega, by omega⟩).1 k1
  · rw [un_self h]; exact hm
theorem do_ok {l : List Ar} {b : Int} {c : Cl} (h : spR l b = true) (ha : In64 c.a) (hf : In64 c.f) : spR (doL l b c) (doB l b c) = true := by
  have h2 := h
  unfold spR at h2
  rw [Bool.and_eq_true] at h2
  obtain ⟨hm, hb⟩ := h2
  have h0 : (!spR l b) = false := by rw [h]; rfl
  have D : ∀ (k : List Ar) (m : Int), doL l b c = k → doB l b c = m → mayS k = true → brkR m = true → spR (doL l b c) (doB l b c) = true := fun k m e1 e2 a b => by
    rw [e1, e2]
    unfold spR
    rw [a, b]
    rfl
  cases k0 : (c.k == 0) with
  | true => exact D (mapL l c) b (by unfold doL; simp only [h0, k0, Bool.false_eq_true, if_true, if_false]) (by unfold doB; simp only [h0, k0, Bool.false_eq_true, if_true, if_false]) (map_keep hm ha hf) hb
  | false =>
    cases k1 : (c.k == 1) with
    | true => exact D (unL l c) b (by unfold doL; simp only [h0, k0, k1, Bool.false_eq_true, if_true, if_false]) (by unfold doB; simp only [h0, k0, k1, Bool.false_eq_true, if_true, if_false]) (un_keep hm) hb
    | false =>
      cases k2 : (c.k == 2) with
      | true => exact D (protL l c) b (by unfold doL; simp only [h0, k0, k1, k2, Bool.false_eq_true, if_true, if_false]) (by unfold doB; simp only [h0, k0, k1, k2, Bool.false_eq_true, if_true, if_false]) (pro_keep hm) hb
      | false =>
        cases k3 : (c.k == 3) with
        | true => exact D (remL l c) b (by unfold doL; simp only [h0, k0, k1, k2, k3, Bool.false_eq_true, if_true, if_false]) (by unfold doB; simp only [h0, k0, k1, k2, k3, Bool.false_eq_true, if_true, if_false]) (rem_keep hm) hb
        | false =>
          cases k4 : (c.k == 4) with
          | true => exact D (brkL l b c.a) (brkV l b c.a) (by unfold doL; simp only [h0, k0, k1, k2, k3, k4, Bool.false_eq_true, if_true, if_false]) (by unfold doB; simp only [h0, k0, k1, k2, k3, k4, Bool.false_eq_true, if_true, if_false]) (brk_keep hm hb).1 (brk_keep hm hb).2
          | false =>
            exact D l b (by unfold doL; simp only [h0, k0, k1, k2, k3, k4, Bool.false_eq_true, if_true, if_false]) (by unfold doB; simp only [h0, k0, k1, k2, k3, k4, Bool.false_eq_true, if_true, if_false]) hm hb
end Go.Proofs.YtbcicjmepojlnaaGreat.Eng
/- Calls one behind the other keep a space right; no condition but those typed. -/
namespace Go.Proofs.YtbcicjmepojlnaaGreat.Eng
open Go Go.RowKit
set_option autoImplicit false
set_option linter.unusedSimpArgs false
set_option linter.unusedVariables false
set_option linter.unusedSectionVars false
def okC (l : List Cl) : Prop := ∀ c ∈ l, In64 c.a ∧ In64 c.f
theorem plS_ok : ∀ (l : List Cl) (s : Sp), okC l → spR s.1 s.2 = true → spR (plS s l).1 (plS s l).2 = true
  | [], s, _, h => h
  | c :: r, s, hc, h => plS_ok r (doS s c) (fun x hx => hc x (List.mem_cons_of_mem _ hx)) (do_ok h (hc c (List.mem_cons_self ..)).1 (hc c (List.mem_cons_self ..)).2)
theorem okC_take {l : List Cl} (h : okC l) (i : Nat) : okC (l.take i) := fun c hc => h c (List.mem_of_mem_take hc)
def stL (l : List Cl) : List Ar := (plS ([], 65536) l).1
def stV (l : List Cl) : Int := (plS ([], 65536) l).2
def stA (l : List Cl) : List An := plA ([], 65536) l
theorem spR_0 : spR [] 65536 = true := by decide
theorem st_right {l : List Cl} (h : okC l) : spR (stL l) (stV l) = true := plS_ok l _ h spR_0
theorem spR_may {l : List Ar} {b : Int} (h : spR l b = true) : mayS l = true := by
  unfold spR at h
  rw [Bool.and_eq_true] at h
  exact h.1
theorem spR_len {l : List Ar} {b : Int} (h : spR l b = true) : l.length ≤ 24 := (mayS_rt (spR_may h)).2
theorem st_len {l : List Cl} (h : okC l) : (stL l).length ≤ 24 := spR_len (st_right h)
theorem stL_next {l : List Cl} {i : Nat} (h : i < l.length) : stL (l.take (i + 1)) = doL (stL (l.take i)) (stV (l.take i)) (nthCl l i) := congrArg Prod.fst (plS_next h ([], 65536))
theorem stB_next {l : List Cl} {i : Nat} (h : i < l.length) : stV (l.take (i + 1)) = doB (stL (l.take i)) (stV (l.take i)) (nthCl l i) := congrArg Prod.snd (plS_next h ([], 65536))
theorem stA_next {l : List Cl} {i : Nat} (h : i < l.length) : stA (l.take (i + 1)) = stA (l.take i) ++ [doN (stL (l.take i)) (stV (l.take i)) (nthCl l i)] := plA_next h ([], 65536)
theorem stA_len (l : List Cl) : (stA l).length = l.length := plA_len l _
theorem encAs_app (l k : List An) : encAs (l ++ k) = encAs l ++ encAs k := by
  unfold encAs
  rw [List.flatMap_append]
theorem encAs_one (a : An) : encAs [a] = encAn a := by
  unfold encAs
  rw [List.flatMap_cons, List.flatMap_nil, List.append_nil]
theorem stA_enc {l : List Cl} {i : Nat} (h : i < l.length) : encAs (stA (l.take i)) ++ encAn (doN (stL (l.take i)) (stV (l.take i)) (nthCl l i)) = encAs (stA (l.take (i + 1))) := by rw [stA_next h, encAs_app, encAs_one]
theorem stA_tlen {l : List Cl} {i : Nat} (h : i < l.length) : (stA (l.take i)).length + 1 = (stA (l.take (i + 1))).length := by rw [stA_next h, List.length_append]; rfl
theorem stA_tle {l : List Cl} {i : Nat} (h : i < l.length) : (stA (l.take i)).length = i := by rw [stA_len, List.length_take]; omega
theorem encCl_len (c : Cl) : (encCl c).length = 9 := rfl
theorem cl_take {l : List Cl} {i : Nat} (h : i < l.length) : takeN (encCs l) (((i : Nat) : Int).toNat * 9) 9 = some (encCl (nthCl l i)) := by
  rw [Int.toNat_natCast]
  exact enc_take encCl_len (by decide) l i _ (nthCl_get h)
theorem cl_ix {i n : Nat} (h : i < n) : 0 < 9 ∧ 0 ≤ ((i : Nat) : Int) ∧ ((i : Nat) : Int) < (n : Int) := by omega
end Go.Proofs.YtbcicjmepojlnaaGreat.Eng
